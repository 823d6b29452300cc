/- The walks of the reference's In, Scope and Binds. Conditions: none. -/
import Derived.Test.YtlboppiogeaicaaDoorCoE
import Derived.Test.YtlboppiogeaicaaDoorCrA
namespace Go.Co
open Go.Eng Go.RowKit
set_option linter.unusedVariables false
set_option linter.unusedSimpArgs false
theorem drop_mem {l : List Int} {i : Nat} {v n : Int} (h : l[i]? = some v) : n ∈ l.drop i ↔ v = n ∨ n ∈ l.drop (i + 1) := by
  obtain ⟨hi, rfl⟩ := List.getElem?_eq_some_iff.1 h
  rw [List.drop_eq_getElem_cons hi, List.mem_cons]
  exact ⟨fun h => h.imp Eq.symm id, fun h => h.imp Eq.symm id⟩
end Go.Co
namespace Go.Proofs.YtlboppiogeaicaaDoor.co
open Go.RowKit Go.Eng Go.Co
set_option linter.unusedVariables false
set_option linter.unusedSimpArgs false
set_option maxRecDepth 100000
theorem In_calls (q : Option Addr) (cap : Nat) (l : List Int) (s : Int) (w : World) (hlen : l.length ≤ 9223372036854775807) (h : IntsO w (low w) l q) :
    Calls Tryd.prog 47 [.slice q l.length cap, .int .i64 s].toArray w fun e w' => e = .returned (.bool (decide (s ∈ l))) ∧ Ext w w' := by
  refine enter Tryd.func47 rfl Tryd.ntmps47 rfl (Cls.start w) ?_
  (simp only [argEnv, Nat.zero_add, Nat.reduceAdd])
  apply W.seq
  apply W.reg
  apply oas; rfl; rfl
  apply OL.nil
  with_reducible apply At.next
  apply W.seq
  apply W.seq
  apply W.reg
  apply omv; rfl; rfl
  apply OL.op; exact Guard.none; rfl; rfl; apply Pev.len_slice; rfl; exact yes; rfl
  apply omv; rfl; rfl
  apply OL.nil
  with_reducible apply At.next
  apply W.block
  refine W.loop (G := Nat) (fun i => i ≤ l.length ∧ (s ∈ l.drop i ↔ s ∈ l)) (fun i => l.length - i)
    (fun i => [(1, true, .int .i64 s), (7, true, .slice q l.length cap), (8, true, .int .i64 (l.length : Int)), (9, true, .int .i64 (i : Int))])
    (fun i => Cls [] [w]) 0 ⟨by omega, by simp⟩ (by (repeat (first | exact Sub.nil | apply Sub.cons rfl | (refine Sub.cons_eq rfl (congrArg (Value.int .i64) (by first | omega | (simp only; omega))) ?_)))) (fun w' hw' => hw') ?_
  rintro i ⟨hi, hrest⟩
  apply W.seq
  apply W.reg
  apply obn; rfl; rfl; rfl; apply Bin.lss
  apply OL.nil
  with_reducible apply At.next
  apply W.seq
  (refine W.cond rfl (fun hlt => ?_) (fun hlt => ?_)) <;> (try (simp only [Bool.and_eq_true, Bool.or_eq_true, Bool.not_eq_true', Bool.and_eq_false_iff, Bool.or_eq_false_iff, Bool.not_eq_false', decide_eq_true_eq, decide_eq_false_iff_not, Int.not_lt, Int.not_le] at hlt)) <;> (try (exfalso; first | omega | exact hlt trivial | contradiction))
  · obtain ⟨a, u, rfl, hab, hu, hcell⟩ := h.get (show i < l.length by omega)
    have hab : a.block < w.heap.size := hab
    rw [drop_mem hu] at hrest
    apply W.skip
    with_reducible apply At.next
    apply W.seq
    apply W.block
    apply W.seq
    apply W.reg
    apply OL.op; exact Guard.none; rfl; rfl; apply Pev.idx; rfl; exact yes; rfl; exact yes; rfl; rfl; intro hcond; omega
    apply OL.op; exact Guard.none; rfl; rfl; apply Pev.load_kept; rfl; exact yes; exact .head _; rfl; intro hcond; assumption; intro hcond; (rw [add_block]; assumption); intro hcond; exact NotOwned.nil
    apply oas; rfl; rfl
    apply OL.nil
    with_reducible apply At.next
    apply W.seq
    apply W.reg
    apply omv; rfl; rfl
    apply omv; rfl; rfl
    apply obn; rfl; rfl; rfl; apply Bin.eql
    apply OL.nil
    with_reducible apply At.next
    (refine W.cond rfl (fun heq => ?_) (fun heq => ?_)) <;> (try (simp only [Bool.and_eq_true, Bool.or_eq_true, Bool.not_eq_true', Bool.and_eq_false_iff, Bool.or_eq_false_iff, Bool.not_eq_false', decide_eq_true_eq, decide_eq_false_iff_not, Int.not_lt, Int.not_le] at heq)) <;> (try (exfalso; first | omega | exact heq trivial | contradiction))
    · apply W.seq
      apply W.reg
      apply oas; rfl; rfl
      apply OL.nil
      with_reducible apply At.next
      apply W.ret
      with_reducible apply At.in_ret
      with_reducible apply At.then_ret
      with_reducible apply At.then_ret
      with_reducible apply At.in_ret
      with_reducible apply At.then_ret
      ((with_reducible apply At.fin1); rfl; rfl; intro w' hw')
      have : s ∈ l := hrest.1 (.inl heq)
      exact ⟨by simp [this], by (exact hw'.toExt (by (repeat (first | exact List.Mem.head _ | apply List.Mem.tail))) (fun k hk => by (focus ((try simp only [add_block]); (repeat (first | exact NotOwned.nil | exact hno _ (by omega) | refine NotOwned.nothing ?_ | refine NotOwned.nds (hlow _ (by omega)) ?_ | refine NotOwned.mapS (by omega) ?_ | apply NotOwned.bif | refine NotOwned.blk (by omega) ?_ | refine NotOwned.row (by omega) ?_ | refine NotOwned.grid (by assumption) (by omega) ?_ | refine NotOwned.pile (by omega) ?_ | refine NotOwned.pool (by omega) ?_ | refine NotOwned.mapI (by omega) ?_ | refine NotOwned.mapX (by omega) ?_ | refine NotOwned.itI (by omega) ?_)); done))))⟩
    · apply W.skip
      with_reducible apply At.in_normal
      with_reducible apply At.next
      apply W.reg
      apply obn; rfl; rfl; rfl; apply Bin.add_in; omega
      apply omv; rfl; rfl
      apply OL.nil
      refine At.again (i + 1) ⟨by omega, ?_⟩ (by omega) (by (repeat (first | exact Sub.nil | apply Sub.cons rfl | (refine Sub.cons_eq rfl (congrArg (Value.int .i64) (by first | omega | (simp only; omega))) ?_)))) (fun w' hw' => hw')
      rw [← hrest]
      exact ⟨.inr, fun h => h.resolve_left heq⟩
  · apply W.exit
    with_reducible apply At.then_exit
    with_reducible apply At.then_exit
    with_reducible apply At.in_exit
    with_reducible apply At.next
    apply W.seq
    apply W.reg
    apply oas; rfl; rfl
    apply OL.nil
    with_reducible apply At.next
    apply W.ret
    ((with_reducible apply At.fin1); rfl; rfl; intro w' hw')
    rw [List.drop_eq_nil_of_le (by omega)] at hrest
    have : ¬ s ∈ l := fun h => by simpa using hrest.2 h
    exact ⟨by simp [this], by (exact hw'.toExt (by (repeat (first | exact List.Mem.head _ | apply List.Mem.tail))) (fun k hk => by (focus ((try simp only [add_block]); (repeat (first | exact NotOwned.nil | exact hno _ (by omega) | refine NotOwned.nothing ?_ | refine NotOwned.nds (hlow _ (by omega)) ?_ | refine NotOwned.mapS (by omega) ?_ | apply NotOwned.bif | refine NotOwned.blk (by omega) ?_ | refine NotOwned.row (by omega) ?_ | refine NotOwned.grid (by assumption) (by omega) ?_ | refine NotOwned.pile (by omega) ?_ | refine NotOwned.pool (by omega) ?_ | refine NotOwned.mapI (by omega) ?_ | refine NotOwned.mapX (by omega) ?_ | refine NotOwned.itI (by omega) ?_)); done))))⟩
theorem Scope_calls (x : Ex) (y : ExY) (k : Nat) (w : World) (h : ExOk w (low w) x y) (hk7 : x.op = 7 ∨ x.op = 13 → k ≤ x.alts.length) (ha : ¬ (x.op = 7 ∨ x.op = 13) → x.alts.length = 0) (hk : k ≤ 140737488355328) :
    ∃ q c, IntsO w (low w) (scopeX x k) q ∧ (scopeX x k).length ≤ 140737488355328 ∧ ∀ w2, (∀ k, k < w.heap.size → w2.heap[k]? = w.heap[k]?) → w.heap.size ≤ w2.heap.size → Calls Tryd.prog 77 [.agg (exC x y).toArray, .int .i64 (k : Int)].toArray w2 fun e w' => e = .returned (.slice q (scopeX x k).length c) ∧ Ext w2 w' := by
  obtain ⟨ps, hps, harr⟩ := h.alts
  have hpl : x.alts.length = ps.length := by rw [← hps, List.length_map]
  have hal := h.al
  have hbl := h.bl
  by_cases hA : x.op = 2 ∨ x.op = 5 ∨ (x.op = 4 ∧ k = 1)
  · have hs : scopeX x k = x.binds := by unfold scopeX bound; rw [if_pos hA]
    rw [hs]
    refine ⟨y.b.1, y.b.2, h.b, hbl, fun w2 hsame hsz => ?_⟩
    refine enter Tryd.func77 rfl Tryd.ntmps77 rfl (Cls.start w2) ?_
    (simp only [argEnv, Nat.zero_add, Nat.reduceAdd])
    simp only [exC]
    apply W.seq
    apply W.reg
    apply OL.box; rfl; rfl; exact CellsL.agg; (intro bk hbk; simp only [AllLe, and_true] at hbk)
    apply oas; rfl; rfl
    apply OL.nil
    with_reducible apply At.next
    apply W.seq
    apply W.seq
    apply W.reg
    apply ofa; rfl; rfl; rfl
    apply old; rfl; rfl; exact .head _; rfl; rfl
    apply obn; rfl; rfl; rfl; apply Bin.eql
    apply omv; rfl; rfl
    apply OL.op; exact Guard.no rfl rfl; rfl; rfl; apply Pev.fld; rfl; exact yes; rfl
    apply OL.op; exact Guard.no rfl rfl; rfl; rfl; apply Pev.load_blk; rfl; exact fun h => h; exact .head _; rfl; rfl
    apply OL.op; exact Guard.no rfl rfl; rfl; rfl; apply Pev.bin; rfl; exact fun h => h; rfl; exact yes; intro hcond; apply Bin.eql
    apply OL.op; exact Guard.none; rfl; rfl; apply Pev.pick_or; rfl; exact yes; rfl; exact fun h => h
    apply omv; rfl; rfl
    apply OL.op; exact Guard.no rfl rfl; rfl; rfl; apply Pev.fld; rfl; exact yes; rfl
    apply OL.op; exact Guard.no rfl rfl; rfl; rfl; apply Pev.load_blk; rfl; exact fun h => h; exact .head _; rfl; rfl
    apply OL.op; exact Guard.no rfl rfl; rfl; rfl; apply Pev.bin; rfl; exact fun h => h; rfl; exact yes; intro hcond; apply Bin.eql
    apply OL.op; exact Guard.no rfl rfl; rfl; rfl; apply Pev.move; rfl; exact fun h => h
    apply OL.op; exact Guard.cyes rfl rfl; rfl; rfl; apply Pev.move; rfl; exact yes
    apply OL.op; exact Guard.cyes rfl rfl; rfl; rfl; apply Pev.bin; rfl; exact fun h => h; rfl; exact yes; intro hcond; apply Bin.eql
    apply OL.op; exact Guard.no rfl rfl; rfl; rfl; apply Pev.pick_and; rfl; exact fun h => h; rfl; exact fun h => h
    apply OL.op; exact Guard.none; rfl; rfl; apply Pev.pick_or; rfl; exact yes; rfl; exact fun h => h
    apply OL.nil
    with_reducible apply At.next
    refine W.cond rfl (fun hb => ?_) (fun hb => by grind)
    apply W.seq
    apply W.reg
    apply ofa; rfl; rfl; rfl
    apply old; rfl; rfl; exact .head _; rfl; rfl
    apply oas; rfl; rfl
    apply OL.nil
    with_reducible apply At.next
    apply W.ret
    with_reducible apply At.then_ret
    ((with_reducible apply At.fin1); rfl; rfl; intro w' hw')
    exact ⟨rfl, by (exact hw'.toExt (by (repeat (first | exact List.Mem.head _ | apply List.Mem.tail))) (fun k hk => by (focus ((try simp only [add_block]); (repeat (first | exact NotOwned.nil | exact hno _ (by omega) | refine NotOwned.nothing ?_ | refine NotOwned.nds (hlow _ (by omega)) ?_ | refine NotOwned.mapS (by omega) ?_ | apply NotOwned.bif | refine NotOwned.blk (by omega) ?_ | refine NotOwned.row (by omega) ?_ | refine NotOwned.grid (by assumption) (by omega) ?_ | refine NotOwned.pile (by omega) ?_ | refine NotOwned.pool (by omega) ?_ | refine NotOwned.mapI (by omega) ?_ | refine NotOwned.mapX (by omega) ?_ | refine NotOwned.itI (by omega) ?_)); done))))⟩
  have hs0 : scopeX x k = if 0 < x.alts.length ∧ 0 < k ∧ k ≤ x.alts.length then (x.alts.getD (k - 1) ⟨0, []⟩).binds else [] := by unfold scopeX bound; rw [if_neg hA]
  by_cases hB : (x.op = 7 ∨ x.op = 13) ∧ 0 < k
  · have hka := hk7 hB.1
    obtain ⟨a, u, hq, hab1, hu, hcell, hok⟩ := harr.get (i := k - 1) (by omega)
    have hab1 : a.block < w.heap.size := hab1
    have hcell : CellsAt w (a.add (((k : Int) - 1).toNat * 2)) [.int .i64 u.1.tag, .slice u.2.1 u.1.binds.length u.2.2] := by rw [show ((k : Int) - 1).toNat = k - 1 by omega]; exact hcell
    have hs : scopeX x k = u.1.binds := by
      rw [hs0, if_pos ⟨by omega, hB.2, hka⟩]
      have : x.alts[k - 1]? = some u.1 := by rw [← hps, List.getElem?_map, hu]; rfl
      simp [List.getD, this]
    rw [hs]
    refine ⟨u.2.1, u.2.2, hok.2.2, hok.2.1.1, fun w2 hsame hsz => ?_⟩
    have hcell : CellsAt w2 (a.add (((k : Int) - 1).toNat * 2)) [.int .i64 u.1.tag, .slice u.2.1 u.1.binds.length u.2.2] := cells_stab (by rw [add_block]; exact hsame _ hab1) hcell
    have hab1 : a.block < w2.heap.size := Nat.lt_of_lt_of_le hab1 hsz
    have hkx : k ≤ x.alts.length := hka
    refine enter Tryd.func77 rfl Tryd.ntmps77 rfl (Cls.start w2) ?_
    (simp only [argEnv, Nat.zero_add, Nat.reduceAdd])
    simp only [exC, hq]
    apply W.seq
    apply W.reg
    apply OL.box; rfl; rfl; exact CellsL.agg; (intro bk hbk; simp only [AllLe, and_true] at hbk)
    apply oas; rfl; rfl
    apply OL.nil
    with_reducible apply At.next
    apply W.seq
    apply W.seq
    apply W.reg
    apply ofa; rfl; rfl; rfl
    apply old; rfl; rfl; exact .head _; rfl; rfl
    apply obn; rfl; rfl; rfl; apply Bin.eql
    apply omv; rfl; rfl
    apply OL.op; exact Guard.no rfl rfl; rfl; rfl; apply Pev.fld; rfl; exact yes; rfl
    apply OL.op; exact Guard.no rfl rfl; rfl; rfl; apply Pev.load_blk; rfl; exact fun h => h; exact .head _; rfl; rfl
    apply OL.op; exact Guard.no rfl rfl; rfl; rfl; apply Pev.bin; rfl; exact fun h => h; rfl; exact yes; intro hcond; apply Bin.eql
    apply OL.op; exact Guard.none; rfl; rfl; apply Pev.pick_or; rfl; exact yes; rfl; exact fun h => h
    apply omv; rfl; rfl
    apply OL.op; exact Guard.no rfl rfl; rfl; rfl; apply Pev.fld; rfl; exact yes; rfl
    apply OL.op; exact Guard.no rfl rfl; rfl; rfl; apply Pev.load_blk; rfl; exact fun h => h; exact .head _; rfl; rfl
    apply OL.op; exact Guard.no rfl rfl; rfl; rfl; apply Pev.bin; rfl; exact fun h => h; rfl; exact yes; intro hcond; apply Bin.eql
    apply OL.op; exact Guard.no rfl rfl; rfl; rfl; apply Pev.move; rfl; exact fun h => h
    apply OL.op; exact Guard.cyes rfl rfl; rfl; rfl; apply Pev.move; rfl; exact yes
    apply OL.op; exact Guard.cyes rfl rfl; rfl; rfl; apply Pev.bin; rfl; exact fun h => h; rfl; exact yes; intro hcond; apply Bin.eql
    apply OL.op; exact Guard.no rfl rfl; rfl; rfl; apply Pev.pick_and; rfl; exact fun h => h; rfl; exact fun h => h
    apply OL.op; exact Guard.none; rfl; rfl; apply Pev.pick_or; rfl; exact yes; rfl; exact fun h => h
    apply OL.nil
    with_reducible apply At.next
    refine W.cond rfl (fun hb => by grind) (fun hb => ?_)
    apply W.skip
    with_reducible apply At.next
    apply W.seq
    apply W.seq
    apply W.reg
    apply ofa; rfl; rfl; rfl
    apply old; rfl; rfl; exact .head _; rfl; rfl
    apply obn; rfl; rfl; rfl; apply Bin.eql
    apply omv; rfl; rfl
    apply OL.op; exact Guard.no rfl rfl; rfl; rfl; apply Pev.fld; rfl; exact yes; rfl
    apply OL.op; exact Guard.no rfl rfl; rfl; rfl; apply Pev.load_blk; rfl; exact fun h => h; exact .head _; rfl; rfl
    apply OL.op; exact Guard.no rfl rfl; rfl; rfl; apply Pev.bin; rfl; exact fun h => h; rfl; exact yes; intro hcond; apply Bin.eql
    apply OL.op; exact Guard.none; rfl; rfl; apply Pev.pick_or; rfl; exact yes; rfl; exact fun h => h
    apply omv; rfl; rfl
    apply OL.op; exact Guard.yes rfl rfl; rfl; rfl; apply Pev.move; rfl; exact yes
    apply OL.op; exact Guard.yes rfl rfl; rfl; rfl; apply Pev.bin; rfl; exact fun h => h; rfl; exact yes; intro hcond; apply Bin.gtr
    apply OL.op; exact Guard.none; rfl; rfl; apply Pev.pick_and; rfl; exact yes; rfl; exact fun h => h
    apply OL.nil
    with_reducible apply At.next
    refine W.cond rfl (fun hb2 => ?_) (fun hb2 => by grind)
    apply W.seq
    apply W.reg
    apply ofa; rfl; rfl; rfl
    apply old; rfl; rfl; exact .head _; rfl; rfl
    apply omv; rfl; rfl
    apply obn; rfl; rfl; rfl; apply Bin.sub_in; omega
    apply OL.op; exact Guard.none; rfl; rfl; apply Pev.idxI; rfl; exact yes; rfl; exact yes; rfl; intro hcond; omega
    apply OL.op; exact Guard.none; rfl; rfl; apply Pev.fldA; rfl; exact yes; rfl
    apply OL.op; exact Guard.none; rfl; rfl; apply Pev.load_kept; rfl; exact yes; exact .head _; rfl; intro hcond; apply CellsAt.at_ (by assumption) rfl; intro hcond; (simp only [add_block]; assumption); intro hcond; simp only [add_block]; refine NotOwned.blk (by omega) ?_; exact NotOwned.nil
    apply oas; rfl; rfl
    apply OL.nil
    with_reducible apply At.next
    apply W.ret
    with_reducible apply At.then_ret
    ((with_reducible apply At.fin1); rfl; rfl; intro w' hw')
    exact ⟨rfl, by (exact hw'.toExt (by (repeat (first | exact List.Mem.head _ | apply List.Mem.tail))) (fun k hk => by (focus ((try simp only [add_block]); (repeat (first | exact NotOwned.nil | exact hno _ (by omega) | refine NotOwned.nothing ?_ | refine NotOwned.nds (hlow _ (by omega)) ?_ | refine NotOwned.mapS (by omega) ?_ | apply NotOwned.bif | refine NotOwned.blk (by omega) ?_ | refine NotOwned.row (by omega) ?_ | refine NotOwned.grid (by assumption) (by omega) ?_ | refine NotOwned.pile (by omega) ?_ | refine NotOwned.pool (by omega) ?_ | refine NotOwned.mapI (by omega) ?_ | refine NotOwned.mapX (by omega) ?_ | refine NotOwned.itI (by omega) ?_)); done))))⟩
  · have hs : scopeX x k = [] := by
      rw [hs0, if_neg]
      rintro ⟨h1, h2, h3⟩
      by_cases h7 : x.op = 7 ∨ x.op = 13
      · exact hB ⟨h7, h2⟩
      · have := ha h7
        omega
    rw [hs]
    refine ⟨none, 0, IntsO.nil, by simp, fun w2 hsame hsz => ?_⟩
    refine enter Tryd.func77 rfl Tryd.ntmps77 rfl (Cls.start w2) ?_
    (simp only [argEnv, Nat.zero_add, Nat.reduceAdd])
    simp only [exC]
    apply W.seq
    apply W.reg
    apply OL.box; rfl; rfl; exact CellsL.agg; (intro bk hbk; simp only [AllLe, and_true] at hbk)
    apply oas; rfl; rfl
    apply OL.nil
    with_reducible apply At.next
    apply W.seq
    apply W.seq
    apply W.reg
    apply ofa; rfl; rfl; rfl
    apply old; rfl; rfl; exact .head _; rfl; rfl
    apply obn; rfl; rfl; rfl; apply Bin.eql
    apply omv; rfl; rfl
    apply OL.op; exact Guard.no rfl rfl; rfl; rfl; apply Pev.fld; rfl; exact yes; rfl
    apply OL.op; exact Guard.no rfl rfl; rfl; rfl; apply Pev.load_blk; rfl; exact fun h => h; exact .head _; rfl; rfl
    apply OL.op; exact Guard.no rfl rfl; rfl; rfl; apply Pev.bin; rfl; exact fun h => h; rfl; exact yes; intro hcond; apply Bin.eql
    apply OL.op; exact Guard.none; rfl; rfl; apply Pev.pick_or; rfl; exact yes; rfl; exact fun h => h
    apply omv; rfl; rfl
    apply OL.op; exact Guard.no rfl rfl; rfl; rfl; apply Pev.fld; rfl; exact yes; rfl
    apply OL.op; exact Guard.no rfl rfl; rfl; rfl; apply Pev.load_blk; rfl; exact fun h => h; exact .head _; rfl; rfl
    apply OL.op; exact Guard.no rfl rfl; rfl; rfl; apply Pev.bin; rfl; exact fun h => h; rfl; exact yes; intro hcond; apply Bin.eql
    apply OL.op; exact Guard.no rfl rfl; rfl; rfl; apply Pev.move; rfl; exact fun h => h
    apply OL.op; exact Guard.cyes rfl rfl; rfl; rfl; apply Pev.move; rfl; exact yes
    apply OL.op; exact Guard.cyes rfl rfl; rfl; rfl; apply Pev.bin; rfl; exact fun h => h; rfl; exact yes; intro hcond; apply Bin.eql
    apply OL.op; exact Guard.no rfl rfl; rfl; rfl; apply Pev.pick_and; rfl; exact fun h => h; rfl; exact fun h => h
    apply OL.op; exact Guard.none; rfl; rfl; apply Pev.pick_or; rfl; exact yes; rfl; exact fun h => h
    apply OL.nil
    with_reducible apply At.next
    refine W.cond rfl (fun hb => by grind) (fun hb => ?_)
    apply W.skip
    with_reducible apply At.next
    apply W.seq
    apply W.seq
    apply W.reg
    apply ofa; rfl; rfl; rfl
    apply old; rfl; rfl; exact .head _; rfl; rfl
    apply obn; rfl; rfl; rfl; apply Bin.eql
    apply omv; rfl; rfl
    apply OL.op; exact Guard.no rfl rfl; rfl; rfl; apply Pev.fld; rfl; exact yes; rfl
    apply OL.op; exact Guard.no rfl rfl; rfl; rfl; apply Pev.load_blk; rfl; exact fun h => h; exact .head _; rfl; rfl
    apply OL.op; exact Guard.no rfl rfl; rfl; rfl; apply Pev.bin; rfl; exact fun h => h; rfl; exact yes; intro hcond; apply Bin.eql
    apply OL.op; exact Guard.none; rfl; rfl; apply Pev.pick_or; rfl; exact yes; rfl; exact fun h => h
    apply omv; rfl; rfl
    apply OL.op; exact Guard.yes rfl rfl; rfl; rfl; apply Pev.move; rfl; exact yes
    apply OL.op; exact Guard.yes rfl rfl; rfl; rfl; apply Pev.bin; rfl; exact fun h => h; rfl; exact yes; intro hcond; apply Bin.gtr
    apply OL.op; exact Guard.none; rfl; rfl; apply Pev.pick_and; rfl; exact yes; rfl; exact fun h => h
    apply OL.nil
    with_reducible apply At.next
    refine W.cond rfl (fun hb2 => by grind) (fun hb2 => ?_)
    apply W.skip
    with_reducible apply At.next
    apply W.seq
    apply W.reg
    apply oas; rfl; rfl
    apply OL.nil
    with_reducible apply At.next
    apply W.ret
    ((with_reducible apply At.fin1); rfl; rfl; intro w' hw')
    exact ⟨rfl, by (exact hw'.toExt (by (repeat (first | exact List.Mem.head _ | apply List.Mem.tail))) (fun k hk => by (focus ((try simp only [add_block]); (repeat (first | exact NotOwned.nil | exact hno _ (by omega) | refine NotOwned.nothing ?_ | refine NotOwned.nds (hlow _ (by omega)) ?_ | refine NotOwned.mapS (by omega) ?_ | apply NotOwned.bif | refine NotOwned.blk (by omega) ?_ | refine NotOwned.row (by omega) ?_ | refine NotOwned.grid (by assumption) (by omega) ?_ | refine NotOwned.pile (by omega) ?_ | refine NotOwned.pool (by omega) ?_ | refine NotOwned.mapI (by omega) ?_ | refine NotOwned.mapX (by omega) ?_ | refine NotOwned.itI (by omega) ?_)); done))))⟩
theorem Binds_calls (x : Ex) (y : ExY) (w : World) (h : ExOk w (low w) x y) (hl : x.binds.length ≤ 16) (hall : x.alts.length ≤ 4096) (hab : ∀ a ∈ x.alts, a.binds.length ≤ 16) :
    Calls Tryd.prog 57 [.agg (exC x y).toArray].toArray w fun e w' => ∃ q c, e = .returned (.slice q (bindersX x).length c) ∧ Ext w w' ∧ IntsO w' (fresh w w') (bindersX x) q ∧ (bindersX x).length ≤ c := by
  obtain ⟨ps, hps, harr⟩ := h.alts
  have hpl : x.alts.length = ps.length := by rw [← hps, List.length_map]
  refine enter Tryd.func57 rfl Tryd.ntmps57 rfl (Cls.start w) ?_
  (simp only [argEnv, Nat.zero_add, Nat.reduceAdd])
  simp only [exC]
  apply W.seq
  apply W.reg
  apply OL.box; rfl; rfl; exact CellsL.agg; (intro bk hbk; simp only [AllLe, and_true] at hbk)
  apply oas; rfl; rfl
  apply OL.nil
  with_reducible apply At.next
  apply W.seq
  apply W.reg
  apply oas; rfl; rfl
  apply OL.nil
  with_reducible apply At.next
  apply W.seq
  apply W.seq
  apply W.reg
  apply ofa; rfl; rfl; rfl
  apply old; rfl; rfl; exact .head _; rfl; rfl
  apply obn; rfl; rfl; rfl; apply Bin.eql
  apply omv; rfl; rfl
  apply OL.op; exact Guard.no rfl rfl; rfl; rfl; apply Pev.fld; rfl; exact yes; rfl
  apply OL.op; exact Guard.no rfl rfl; rfl; rfl; apply Pev.load_blk; rfl; exact fun h => h; exact .head _; rfl; rfl
  apply OL.op; exact Guard.no rfl rfl; rfl; rfl; apply Pev.bin; rfl; exact fun h => h; rfl; exact yes; intro hcond; apply Bin.eql
  apply OL.op; exact Guard.none; rfl; rfl; apply Pev.pick_or; rfl; exact yes; rfl; exact fun h => h
  apply omv; rfl; rfl
  apply OL.op; exact Guard.no rfl rfl; rfl; rfl; apply Pev.fld; rfl; exact yes; rfl
  apply OL.op; exact Guard.no rfl rfl; rfl; rfl; apply Pev.load_blk; rfl; exact fun h => h; exact .head _; rfl; rfl
  apply OL.op; exact Guard.no rfl rfl; rfl; rfl; apply Pev.bin; rfl; exact fun h => h; rfl; exact yes; intro hcond; apply Bin.eql
  apply OL.op; exact Guard.none; rfl; rfl; apply Pev.pick_or; rfl; exact yes; rfl; exact fun h => h
  apply OL.nil
  with_reducible apply At.next
  refine W.cls (fun w' hw' => hw'.row_nil w.heap.size 3 1) ?_
  refine W.joinx (G := GR) (fun _ => True) (fun g => [(1, true, .pointer (some ⟨bk, 0, none⟩)), (3, true, .slice g.q (if x.op = 2 ∨ x.op = 4 ∨ x.op = 5 then x.binds else []).length g.c)]) (fun g => Cls [row w.heap.size g.O g.q (if x.op = 2 ∨ x.op = 4 ∨ x.op = 5 then x.binds else []).length g.c 3 1 (ints (if x.op = 2 ∨ x.op = 4 ∨ x.op = 5 then x.binds else [])), blk bk 28 [.int .i64 x.op, .int .i64 x.n, .slice y.b.1 x.binds.length y.b.2, .slice y.k.1 x.kids.length y.k.2, .slice y.a.1 x.alts.length y.a.2]] [w]) ?_ ?_
  · refine W.cond rfl (fun hb => ?_) (fun hb => ?_)
    · have hop : x.op = 2 ∨ x.op = 4 ∨ x.op = 5 := by grind
      rw [if_pos hop]
      apply W.reg
      apply omv; rfl; rfl
      apply ofa; rfl; rfl; rfl
      apply old; rfl; rfl; exact .tail _ (.head _); rfl; rfl
      (apply OL.appendK (news := ints x.binds)); rfl; rfl; rfl; rfl; ((repeat (first | apply Hole.z | apply Hole.s))); (exact fun w2 hw2 => (h.b.at hw2 (.head _) (fun k hk => by (focus ((try simp only [add_block]); (repeat (first | exact NotOwned.nil | exact hno _ (by omega) | refine NotOwned.nothing ?_ | refine NotOwned.nds (hlow _ (by omega)) ?_ | refine NotOwned.mapS (by omega) ?_ | apply NotOwned.bif | refine NotOwned.blk (by omega) ?_ | refine NotOwned.row (by omega) ?_ | refine NotOwned.grid (by assumption) (by omega) ?_ | refine NotOwned.pile (by omega) ?_ | refine NotOwned.pool (by omega) ?_ | refine NotOwned.mapI (by omega) ?_ | refine NotOwned.mapX (by omega) ?_ | refine NotOwned.itI (by omega) ?_)); done)))).slAt); (rw [ints_length, Nat.mul_one]); (exact ints_oneL _); (exact ⟨w, .head _, Nat.le_refl _⟩); (omega); (intro O1 q1 c1)
      simp only [Nat.zero_add, List.nil_append]
      apply oas; rfl; rfl
      apply OL.nil
      exact At.joinedx ⟨O1, q1, c1⟩ trivial (by (repeat (first | exact Sub.nil | apply Sub.cons rfl | (refine Sub.cons_eq rfl (congrArg (Value.int .i64) (by first | omega | (simp only; omega))) ?_)))) (fun w' hw' => hw')
    · have hop : ¬ (x.op = 2 ∨ x.op = 4 ∨ x.op = 5) := by grind
      rw [if_neg hop]
      apply W.skip
      exact At.joinedx ⟨_, none, 0⟩ trivial (by (repeat (first | exact Sub.nil | apply Sub.cons rfl | (refine Sub.cons_eq rfl (congrArg (Value.int .i64) (by first | omega | (simp only; omega))) ?_)))) (fun w' hw' => hw')
  rintro ⟨O0, q0, c0⟩ -
  simp only
  have hL0l : (if x.op = 2 ∨ x.op = 4 ∨ x.op = 5 then x.binds else []).length ≤ 16 := by split <;> simp [hl]
  unfold bindersX
  generalize (if x.op = 2 ∨ x.op = 4 ∨ x.op = 5 then x.binds else []) = L0 at *
  have habp : ∀ p ∈ ps, p.1.binds.length ≤ 16 := fun p hp => hab p.1 (by rw [← hps]; exact List.mem_map_of_mem hp)
  have hfl : ∀ i, ((ps.take i).flatMap fun p => p.1.binds).length ≤ 65536 := fun i => by
    have h1 := flat_len (l := x.alts.take i) fun a ha => hab a (List.mem_of_mem_take ha)
    have h3 : (x.alts.take i).flatMap Al.binds = (ps.take i).flatMap fun p => p.1.binds := by
      rw [← hps, ← List.map_take, List.flatMap_map]
    rw [h3] at h1
    simp only [List.length_take] at h1
    omega
  have hall2 : x.alts.flatMap Al.binds = ps.flatMap fun p => p.1.binds := by rw [← hps, List.flatMap_map]
  rw [hall2]
  simp only [hpl] at *
  apply W.seq
  apply W.seq
  apply W.reg
  apply ofa; rfl; rfl; rfl
  apply old; rfl; rfl; exact .tail _ (.head _); rfl; rfl
  apply OL.op; exact Guard.none; rfl; rfl; apply Pev.len_slice; rfl; exact yes; rfl
  apply omv; rfl; rfl
  apply OL.nil
  with_reducible apply At.next
  apply W.block
  refine W.loop (G := Nat × GR) (fun g => g.1 ≤ ps.length) (fun g => ps.length - g.1)
    (fun g => [(3, true, .slice g.2.q (L0 ++ (ps.take g.1).flatMap fun p => p.1.binds).length g.2.c), (24, true, .slice y.a.1 ps.length y.a.2), (25, true, .int .i64 (ps.length : Int)), (26, true, .int .i64 (g.1 : Int))])
    (fun g => Cls [row w.heap.size g.2.O g.2.q (L0 ++ (ps.take g.1).flatMap fun p => p.1.binds).length g.2.c 3 1 (ints (L0 ++ (ps.take g.1).flatMap fun p => p.1.binds))] [w]) (0, ⟨O0, q0, c0⟩) (by simp) (by simp only [List.take_zero, List.flatMap_nil, List.append_nil]; (repeat (first | exact Sub.nil | apply Sub.cons rfl | (refine Sub.cons_eq rfl (congrArg (Value.int .i64) (by first | omega | (simp only; omega))) ?_)))) (fun w' hw' => by simpa using hw'.thin (by (repeat (first | exact Thin.nil | exact Thin.same | apply Thin.keep | (refine Thin.blk (by assumption) ?_) | (refine Thin.blk (by simp only [AllLe, and_true]; omega) ?_))))) ?_
  rintro ⟨i, ⟨O1, q1, c1⟩⟩ hi
  simp only at hi ⊢
  apply W.seq
  apply W.reg
  apply obn; rfl; rfl; rfl; apply Bin.lss
  apply OL.nil
  with_reducible apply At.next
  apply W.seq
  (refine W.cond rfl (fun hlt => ?_) (fun hlt => ?_)) <;> (try (simp only [Bool.and_eq_true, Bool.or_eq_true, Bool.not_eq_true', Bool.and_eq_false_iff, Bool.or_eq_false_iff, Bool.not_eq_false', decide_eq_true_eq, decide_eq_false_iff_not, Int.not_lt, Int.not_le] at hlt)) <;> (try (exfalso; first | omega | exact hlt trivial | contradiction))
  · have hil : i < ps.length := by omega
    obtain ⟨a, u, hq, hab1, hu, hcell, hok⟩ := harr.get hil
    have hab1 : a.block < w.heap.size := hab1
    have hcell : CellsAt w (a.add (i * 2)) [.int .i64 u.1.tag, .slice u.2.1 u.1.binds.length u.2.2] := hcell
    have hub := habp u (List.mem_of_getElem? hu)
    have hi1 := hfl i
    have hsnoc : (L0 ++ (ps.take (i + 1)).flatMap fun p => p.1.binds) = (L0 ++ (ps.take i).flatMap fun p => p.1.binds) ++ u.1.binds := by
      rw [List.take_add_one, hu]
      simp
    have hll : (L0 ++ (ps.take i).flatMap fun p => p.1.binds).length ≤ 65552 := by rw [List.length_append]; omega
    rw [hq]
    apply W.skip
    with_reducible apply At.next
    apply W.seq
    apply W.block
    apply W.seq
    apply W.reg
    apply OL.op; exact Guard.none; rfl; rfl; apply Pev.idx; rfl; exact yes; rfl; exact yes; rfl; rfl; intro hcond; omega
    apply OL.op; exact Guard.none; rfl; rfl; apply Pev.load_keptA; rfl; exact yes; exact .head _; rfl; intro hcond; assumption; rfl; intro hcond; (rw [add_block]; assumption); intro hcond; simp only [add_block]; refine NotOwned.row (by omega) ?_; exact NotOwned.nil
    apply OL.alloc; rfl; rfl; exact CellsL.agg; (intro bk hbk; simp only [AllLe, and_true] at hbk)
    apply OL.storeB; rfl; rfl; exact CellsL.agg; rfl; rfl; rfl; apply Swap.z; apply Put.here; apply Over.cons; apply Over.cons; apply Over.nil
    apply OL.nil
    with_reducible apply At.next
    apply W.reg
    apply omv; rfl; rfl
    apply ofa; rfl; rfl; rfl
    apply old; rfl; rfl; exact .head _; rfl; rfl
    (apply OL.appendK (news := ints u.1.binds)); rfl; rfl; rfl; rfl; ((repeat (first | apply Hole.z | apply Hole.s))); (exact fun w2 hw2 => (hok.2.2.at hw2 (.head _) (fun k hk => by (focus ((try simp only [add_block]); (repeat (first | exact NotOwned.nil | exact hno _ (by omega) | refine NotOwned.nothing ?_ | refine NotOwned.nds (hlow _ (by omega)) ?_ | refine NotOwned.mapS (by omega) ?_ | apply NotOwned.bif | refine NotOwned.blk (by omega) ?_ | refine NotOwned.row (by omega) ?_ | refine NotOwned.grid (by assumption) (by omega) ?_ | refine NotOwned.pile (by omega) ?_ | refine NotOwned.pool (by omega) ?_ | refine NotOwned.mapI (by omega) ?_ | refine NotOwned.mapX (by omega) ?_ | refine NotOwned.itI (by omega) ?_)); done)))).slAt); (rw [ints_length, Nat.mul_one]); (exact ints_oneL _); (exact ⟨w, .head _, Nat.le_refl _⟩); (omega); (intro O2 q2 c2)
    rw [← ints_append, ← hsnoc, ← List.length_append, ← hsnoc]
    apply oas; rfl; rfl
    apply OL.nil
    with_reducible apply At.in_normal
    with_reducible apply At.next
    apply W.reg
    apply obn; rfl; rfl; rfl; apply Bin.add_in; omega
    apply omv; rfl; rfl
    apply OL.nil
    refine At.again (i + 1, ⟨O2, q2, c2⟩) (by simp only; omega) (by simp only; omega) (by (repeat (first | exact Sub.nil | apply Sub.cons rfl | (refine Sub.cons_eq rfl (congrArg (Value.int .i64) (by first | omega | (simp only; omega))) ?_)))) (fun w' hw' => hw'.thin (by (repeat (first | exact Thin.nil | exact Thin.same | apply Thin.keep | (refine Thin.blk (by assumption) ?_) | (refine Thin.blk (by simp only [AllLe, and_true]; omega) ?_)))))
  · obtain rfl : i = ps.length := by omega
    rw [List.take_length]
    apply W.exit
    with_reducible apply At.then_exit
    with_reducible apply At.then_exit
    with_reducible apply At.in_exit
    with_reducible apply At.next
    apply W.seq
    apply W.reg
    apply omv; rfl; rfl
    apply oas; rfl; rfl
    apply OL.nil
    with_reducible apply At.next
    apply W.ret
    ((with_reducible apply At.fin1); rfl; rfl; intro w' hw')
    exact ⟨_, _, rfl, by (exact hw'.toExt (by (repeat (first | exact List.Mem.head _ | apply List.Mem.tail))) (fun k hk => by (focus ((try simp only [add_block]); (repeat (first | exact NotOwned.nil | exact hno _ (by omega) | refine NotOwned.nothing ?_ | refine NotOwned.nds (hlow _ (by omega)) ?_ | refine NotOwned.mapS (by omega) ?_ | apply NotOwned.bif | refine NotOwned.blk (by omega) ?_ | refine NotOwned.row (by omega) ?_ | refine NotOwned.grid (by assumption) (by omega) ?_ | refine NotOwned.pile (by omega) ?_ | refine NotOwned.pool (by omega) ?_ | refine NotOwned.mapI (by omega) ?_ | refine NotOwned.mapX (by omega) ?_ | refine NotOwned.itI (by omega) ?_)); done)))), rowInts hw' (.head _) (Nat.le_refl _), row_cap (hw'.item (.head _))⟩
end Go.Proofs.YtlboppiogeaicaaDoor.co
