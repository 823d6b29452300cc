/- The walks of the reference's TreeError and of the law PrinterChecks. Conditions: none. -/
import Derived.Test.YtlcclcakdfmgkaaPkJ
import Derived.Test.YtlcclcakdfmgkaaRd
namespace Go.Proofs.Ytlcclcakdfmgkaa.pk
open Go.RowKit Go.Eng Go.Pk
set_option linter.unusedVariables false
set_option linter.unusedSimpArgs false
set_option maxRecDepth 100000

theorem TreeError_calls (t : List Nk) (q : Option Addr) (cap : Nat) (w : World) (hlen : t.length ≤ 300) (hcap : t.length ≤ cap) (hn : NodesAt w q t) :
    Calls Try.prog 23 #[.slice q t.length cap] w fun e w' => e = .returned (.int .i64 (treeE t)) ∧ Ext w w' := by
  refine enter Try.func23 rfl Try.ntmps23 rfl (Cls.start w) ?_
  (simp only [argEnv, Nat.zero_add, Nat.reduceAdd])
  apply W.seq
  apply W.reg
  apply oas; rfl; rfl
  apply OL.nil
  with_reducible apply At.next
  apply W.seq
  apply W.seq
  apply W.reg
  apply omv; rfl; rfl
  apply OL.op; exact Guard.none; rfl; rfl; apply Pev.len_slice; rfl; exact yes; rfl
  apply obn; rfl; rfl; rfl; apply Bin.gtr
  apply OL.nil
  with_reducible apply At.next
  (refine W.cond rfl (fun h4 => ?_) (fun h4 => ?_)) <;> (try (simp only [Bool.and_eq_true, Bool.or_eq_true, Bool.not_eq_true', Bool.and_eq_false_iff, Bool.or_eq_false_iff, Bool.not_eq_false', decide_eq_true_eq, decide_eq_false_iff_not, Int.not_lt, Int.not_le] at h4)) <;> (try (exfalso; first | omega | exact h4 trivial | contradiction))
  by_cases h0 : t.length = 0
  · have ht : treeE t = 3 := by unfold treeE; rw [if_pos (.inl h0)]
    obtain rfl : t = [] := List.eq_nil_of_length_eq_zero h0
    apply W.skip
    with_reducible apply At.next
    apply W.seq
    apply W.seq
    apply W.reg
    apply omv; rfl; rfl
    apply OL.op; exact Guard.none; rfl; rfl; apply Pev.len_slice; rfl; exact yes; rfl
    apply obn; rfl; rfl; rfl; apply Bin.eql
    apply omv; rfl; rfl
    apply OL.op; exact Guard.no rfl rfl; rfl; rfl; apply Pev.move; rfl; exact yes
    apply OL.op; exact Guard.no rfl rfl; rfl; rfl; apply Pev.move; rfl; exact yes
    apply OL.op; exact Guard.no rfl rfl; rfl; rfl; apply Pev.len_slice; rfl; exact fun h => h; rfl
    apply OL.op; exact Guard.no rfl rfl; rfl; rfl; apply Pev.bin; rfl; exact fun h => h; rfl; exact yes; intro hcond; apply Bin.sub_in; omega
    apply OL.gateOff; exact Guard.no rfl rfl; rfl; rfl
    apply OL.gateOff; exact Guard.no rfl rfl; rfl; rfl
    apply OL.gateOff; exact Guard.no rfl rfl; rfl; rfl
    apply OL.gateOff; exact Guard.no rfl rfl; rfl; rfl
    apply OL.op; exact Guard.none; rfl; rfl; apply Pev.pick_on; rfl; exact yes; (intro hcond; rfl); rfl; exact yes
    apply OL.nil
    with_reducible apply At.next
    refine W.cond rfl (fun hb => ?_) (fun hb => by simp at hb)
    apply W.seq
    apply W.reg
    apply oas; rfl; rfl
    apply OL.nil
    with_reducible apply At.next
    apply W.ret
    with_reducible apply At.then_ret
    ((with_reducible apply At.fin1); rfl; rfl; intro w' hw')
    exact ⟨by rw [ht], by (exact hw'.toExt (by (repeat (first | exact List.Mem.head _ | apply List.Mem.tail))) (fun k hk => by (focus ((try simp only [add_block]); (repeat (first | exact NotOwned.nil | exact hno _ (by omega) | refine NotOwned.nothing ?_ | refine NotOwned.nds (hlow _ (by omega)) ?_ | refine NotOwned.mapS (by omega) ?_ | apply NotOwned.bif | refine NotOwned.blk (by omega) ?_ | refine NotOwned.row (by omega) ?_ | refine NotOwned.grid (by assumption) (by omega) ?_)); done))))⟩
  obtain ⟨ul, hul⟩ : ∃ u, t[t.length - 1]? = some u := ⟨_, List.getElem?_eq_getElem (by omega)⟩
  obtain ⟨a, rfl, hab, hcl, _, _⟩ := node_at hn hul
  have hcl' : CellsAt w (a.add (((t.length : Int) - 1).toNat * 6)) (nc ul) := by rw [show ((t.length : Int) - 1).toNat = t.length - 1 by omega]; exact hcl
  have hlk : lastK t = ul.kind := kd_get (by rw [show ((t.length : Int) - 1).toNat = t.length - 1 by omega]; exact hul)
  have hfl := flat_len (B := 17592186043904) fun u hu => by have := (hn.kid u hu).1; omega
  clear hcl
  apply W.skip
  with_reducible apply At.next
  apply W.seq
  apply W.seq
  apply W.reg
  apply omv; rfl; rfl
  apply OL.op; exact Guard.none; rfl; rfl; apply Pev.len_slice; rfl; exact yes; rfl
  apply obn; rfl; rfl; rfl; apply Bin.eql
  apply omv; rfl; rfl
  apply OL.op; exact Guard.no rfl rfl; rfl; rfl; apply Pev.move; rfl; exact yes
  apply OL.op; exact Guard.no rfl rfl; rfl; rfl; apply Pev.move; rfl; exact yes
  apply OL.op; exact Guard.no rfl rfl; rfl; rfl; apply Pev.len_slice; rfl; exact fun h => h; rfl
  apply OL.op; exact Guard.no rfl rfl; rfl; rfl; apply Pev.bin; rfl; exact fun h => h; rfl; exact yes; intro hcond; apply Bin.sub_in; omega
  apply OL.op; exact Guard.no rfl rfl; rfl; rfl; apply Pev.idxI; rfl; exact fun h => h; rfl; exact fun h => h; rfl; intro hcond; omega
  apply OL.op; exact Guard.no rfl rfl; rfl; rfl; apply Pev.fldA; rfl; exact fun h => h; rfl
  apply OL.op; exact Guard.no rfl rfl; rfl; rfl; apply Pev.load_kept; rfl; exact fun h => h; exact .head _; rfl; intro hcond; apply CellsAt.at_ (by assumption) rfl; intro hcond; (simp only [add_block]; assumption); intro hcond; exact NotOwned.nil
  apply OL.op; exact Guard.no rfl rfl; rfl; rfl; apply Pev.bin; rfl; exact fun h => h; rfl; exact yes; intro hcond; apply Bin.neq
  apply OL.op; exact Guard.none; rfl; rfl; apply Pev.pick_or; rfl; exact yes; rfl; exact fun h => h
  apply OL.nil
  with_reducible apply At.next
  refine W.cond rfl (fun hb => ?_) (fun hb => ?_)
  · have ht : treeE t = 3 := by
      unfold treeE; rw [if_pos (.inr (by rw [hlk]; simp at hb; rcases hb with h | h; exact absurd (by rw [h]; rfl) h0; exact h))]
    apply W.seq
    apply W.reg
    apply oas; rfl; rfl
    apply OL.nil
    with_reducible apply At.next
    apply W.ret
    with_reducible apply At.then_ret
    ((with_reducible apply At.fin1); rfl; rfl; intro w' hw')
    exact ⟨by rw [ht], by (exact hw'.toExt (by (repeat (first | exact List.Mem.head _ | apply List.Mem.tail))) (fun k hk => by (focus ((try simp only [add_block]); (repeat (first | exact NotOwned.nil | exact hno _ (by omega) | refine NotOwned.nothing ?_ | refine NotOwned.nds (hlow _ (by omega)) ?_ | refine NotOwned.mapS (by omega) ?_ | apply NotOwned.bif | refine NotOwned.blk (by omega) ?_ | refine NotOwned.row (by omega) ?_ | refine NotOwned.grid (by assumption) (by omega) ?_)); done))))⟩
  have hul0 : ul.kind = 0 := by simp at hb; exact hb.2
  have ht := tree_unf h0 (by rw [hlk]; exact hul0)
  clear hcl' hlk hb
  apply W.skip
  with_reducible apply At.next
  apply W.seq
  apply W.seq
  apply W.reg
  apply omv; rfl; rfl
  apply OL.op; exact Guard.none; rfl; rfl; apply Pev.len_slice; rfl; exact yes; rfl
  apply omv; rfl; rfl
  apply OL.nil
  with_reducible apply At.next
  apply W.block
  refine W.loop (G := Nat) (fun i => i ≤ t.length ∧ GoodN t i ∧ errF t (t.drop i) i = errF t t 0) (fun i => t.length - i)
    (fun i => [(0, true, .slice (some a) t.length cap), (28, true, .int .i64 (t.length : Int)), (29, true, .int .i64 (i : Int))])
    (fun i => Cls [] [w]) 0 ⟨by omega, GoodN.zero t, rfl⟩ (by (repeat (first | exact Sub.nil | apply Sub.cons rfl | (refine Sub.cons_eq rfl (congrArg (Value.int .i64) (by first | omega | (simp only; omega))) ?_)))) (fun w' hw' => hw') ?_
  rintro i ⟨hi, hg, hrest⟩
  apply W.seq
  apply W.reg
  apply obn; rfl; rfl; rfl; apply Bin.lss
  apply OL.nil
  with_reducible apply At.next
  apply W.seq
  (refine W.cond rfl (fun hlt => ?_) (fun hlt => ?_)) <;> (try (simp only [Bool.and_eq_true, Bool.or_eq_true, Bool.not_eq_true', Bool.and_eq_false_iff, Bool.or_eq_false_iff, Bool.not_eq_false', decide_eq_true_eq, decide_eq_false_iff_not, Int.not_lt, Int.not_le] at hlt)) <;> (try (exfalso; first | omega | exact hlt trivial | contradiction))
  · have hil : i < t.length := by omega
    obtain ⟨u, hu⟩ : ∃ u, t[i]? = some u := ⟨_, List.getElem?_eq_getElem hil⟩
    rw [errF_get hu] at hrest
    apply W.skip
    with_reducible apply At.next
    apply W.seq
    apply W.block
    apply W.seq
    apply W.reg
    apply omv; rfl; rfl
    apply oas; rfl; rfl
    apply OL.nil
    with_reducible apply At.next
    apply W.seq
    apply W.reg
    apply omv; rfl; rfl
    apply omv; rfl; rfl
    (((first | (with_reducible apply OL.op) | (with_reducible apply QL.op)); ((first | exact Guard.none | exact Guard.yes rfl rfl | exact Guard.no rfl rfl | exact Guard.cyes rfl rfl | exact Guard.cno rfl rfl)); rfl; rfl); (exact Pev.call rfl (by (repeat (first | exact Args.nil | (apply Args.cons rfl; ((first | exact fun _ => rfl | exact fun h => h | (intro h; simp_all; done))))))) (fun _ w2 hw2 => (nodeError_calls t i u a cap w2 hu hlen (hn.ext (hw2.toExt (by (repeat (first | exact List.Mem.head _ | apply List.Mem.tail))) (fun k hk => by (focus ((try simp only [add_block]); (repeat (first | exact NotOwned.nil | exact hno _ (by omega) | refine NotOwned.nothing ?_ | refine NotOwned.nds (hlow _ (by omega)) ?_ | refine NotOwned.mapS (by omega) ?_ | apply NotOwned.bif | refine NotOwned.blk (by omega) ?_ | refine NotOwned.row (by omega) ?_ | refine NotOwned.grid (by assumption) (by omega) ?_)); done))))) hg).mono (fun e w3 h => ⟨h.1, hw2.ext h.2⟩))))
    apply oas; rfl; rfl
    apply OL.nil
    with_reducible apply At.next
    apply W.seq
    apply W.reg
    apply omv; rfl; rfl
    apply obn; rfl; rfl; rfl; apply Bin.neq
    apply OL.nil
    with_reducible apply At.next
    refine W.cond rfl (fun hb => ?_) (fun hb => ?_)
    · have hne : ¬ nodeE t i u = 0 := by simpa using hb
      rw [if_neg hne] at hrest
      apply W.seq
      apply W.reg
      apply omv; rfl; rfl
      apply oas; rfl; rfl
      apply OL.nil
      with_reducible apply At.next
      apply W.ret
      with_reducible apply At.in_ret
      with_reducible apply At.then_ret
      with_reducible apply At.then_ret
      with_reducible apply At.in_ret
      with_reducible apply At.then_ret
      ((with_reducible apply At.fin1); rfl; rfl; intro w' hw')
      exact ⟨by rw [ht, ← hrest, if_pos hne], by (exact hw'.toExt (by (repeat (first | exact List.Mem.head _ | apply List.Mem.tail))) (fun k hk => by (focus ((try simp only [add_block]); (repeat (first | exact NotOwned.nil | exact hno _ (by omega) | refine NotOwned.nothing ?_ | refine NotOwned.nds (hlow _ (by omega)) ?_ | refine NotOwned.mapS (by omega) ?_ | apply NotOwned.bif | refine NotOwned.blk (by omega) ?_ | refine NotOwned.row (by omega) ?_ | refine NotOwned.grid (by assumption) (by omega) ?_)); done))))⟩
    · have he : nodeE t i u = 0 := by simpa using hb
      rw [if_pos he] at hrest
      apply W.skip
      with_reducible apply At.in_normal
      with_reducible apply At.next
      apply W.reg
      apply obn; rfl; rfl; rfl; apply Bin.add_in; omega
      apply omv; rfl; rfl
      apply OL.nil
      exact At.again (i + 1) ⟨by omega, hg.step hu he, hrest⟩ (by omega) (by (repeat (first | exact Sub.nil | apply Sub.cons rfl | (refine Sub.cons_eq rfl (congrArg (Value.int .i64) (by first | omega | (simp only; omega))) ?_)))) (fun w' hw' => hw')
  have hie : i = t.length := by omega
  subst hie
  rw [errF_end (Nat.le_refl _)] at hrest
  rw [← hrest, if_neg (by simp)] at ht
  clear hrest
  apply W.exit
  with_reducible apply At.then_exit
  with_reducible apply At.then_exit
  with_reducible apply At.in_exit
  with_reducible apply At.next
  apply W.seq
  apply W.seq
  apply W.reg
  apply omv; rfl; rfl
  apply omv; rfl; rfl
  apply OL.op; exact Guard.none; rfl; rfl; apply Pev.len_slice; rfl; exact yes; rfl
  apply obn; rfl; rfl; rfl; apply Bin.sub_in; omega
  apply OL.op; exact Guard.none; rfl; rfl; apply Pev.slice_hi; rfl; exact yes; rfl; exact yes; rfl; (first | exact (Int.toNat_of_nonneg (by omega)).symm | omega); intro hcond; omega
  apply OL.op; exact Guard.none; rfl; rfl; apply Pev.len_slice; rfl; exact yes; rfl
  apply omv; rfl; rfl
  apply OL.nil
  with_reducible apply At.next
  apply W.block
  refine W.loop (G := Nat) (fun i => i ≤ t.length - 1 ∧ ∀ j, j < i → (flat t).count (j : Int) = 1) (fun i => t.length - 1 - i)
    (fun i => [(0, true, .slice (some a) t.length cap), (44, true, .int .i64 (((t.length : Int) - 1).toNat : Int)), (45, true, .int .i64 (i : Int))])
    (fun i => Cls [] [w]) 0 ⟨by omega, by omega⟩ (by (repeat (first | exact Sub.nil | apply Sub.cons rfl | (refine Sub.cons_eq rfl (congrArg (Value.int .i64) (by first | omega | (simp only; omega))) ?_)))) (fun w' hw' => hw') ?_
  rintro i ⟨hi2, hc⟩
  apply W.seq
  apply W.reg
  apply obn; rfl; rfl; rfl; apply Bin.lss
  apply OL.nil
  with_reducible apply At.next
  apply W.seq
  (refine W.cond rfl (fun hlt2 => ?_) (fun hlt2 => ?_)) <;> (try (simp only [Bool.and_eq_true, Bool.or_eq_true, Bool.not_eq_true', Bool.and_eq_false_iff, Bool.or_eq_false_iff, Bool.not_eq_false', decide_eq_true_eq, decide_eq_false_iff_not, Int.not_lt, Int.not_le] at hlt2)) <;> (try (exfalso; first | omega | exact hlt2 trivial | contradiction))
  · apply W.skip
    with_reducible apply At.next
    apply W.seq
    apply W.block
    apply W.seq
    apply W.reg
    apply omv; rfl; rfl
    apply oas; rfl; rfl
    apply OL.nil
    with_reducible apply At.next
    apply W.seq
    apply W.reg
    apply oas; rfl; rfl
    apply OL.nil
    with_reducible apply At.next
    apply W.seq
    apply W.seq
    apply W.reg
    apply omv; rfl; rfl
    apply OL.op; exact Guard.none; rfl; rfl; apply Pev.len_slice; rfl; exact yes; rfl
    apply omv; rfl; rfl
    apply OL.nil
    with_reducible apply At.next
    apply W.block
    refine W.loop (G := Nat) (fun p => p ≤ t.length) (fun p => t.length - p)
      (fun p => [(0, true, .slice (some a) t.length cap), (5, true, .int .i64 (i : Int)), (6, true, .int .i64 (((flat (t.take p)).count (i : Int) : Nat) : Int)), (44, true, .int .i64 (((t.length : Int) - 1).toNat : Int)), (45, true, .int .i64 (i : Int)), (48, true, .slice (some a) t.length cap), (49, true, .int .i64 (t.length : Int)), (50, true, .int .i64 (p : Int))])
      (fun p => Cls [] [w]) 0 (by omega) (by (repeat (first | exact Sub.nil | apply Sub.cons rfl | (refine Sub.cons_eq rfl (congrArg (Value.int .i64) (by first | omega | (simp only; omega))) ?_)))) (fun w' hw' => hw') ?_
    rintro p hp
    apply W.seq
    apply W.reg
    apply obn; rfl; rfl; rfl; apply Bin.lss
    apply OL.nil
    with_reducible apply At.next
    apply W.seq
    (refine W.cond rfl (fun hlt3 => ?_) (fun hlt3 => ?_)) <;> (try (simp only [Bool.and_eq_true, Bool.or_eq_true, Bool.not_eq_true', Bool.and_eq_false_iff, Bool.or_eq_false_iff, Bool.not_eq_false', decide_eq_true_eq, decide_eq_false_iff_not, Int.not_lt, Int.not_le] at hlt3)) <;> (try (exfalso; first | omega | exact hlt3 trivial | contradiction))
    · have hpl : p < t.length := by omega
      obtain ⟨u, hu⟩ : ∃ u, t[p]? = some u := ⟨_, List.getElem?_eq_getElem hpl⟩
      obtain ⟨a', ea, _, hcu, hkl, hks⟩ := node_at hn hu
      cases ea
      have hfs := flat_step hu
      have hfi : (flat (t.take p)).length ≤ 42221246506598400 := by
        have h1 := flat_len (t := t.take p) (B := 17592186043904) fun u hu => by have := (hn.kid u (List.mem_of_mem_take hu)).1; omega
        have h2 : (t.take p).length ≤ 300 := by rw [List.length_take]; omega
        have h3 := Nat.mul_le_mul_right 17592186043904 h2
        omega
      obtain ⟨kind, text, nn, kids, kq, kcap, line, col⟩ := u
      simp only at hkl hks hfs
      simp only [nc] at hcu
      generalize flat (t.take p) = fp at *
      apply W.skip
      with_reducible apply At.next
      apply W.seq
      apply W.block
      apply W.seq
      apply W.reg
      apply OL.op; exact Guard.none; rfl; rfl; apply Pev.idx; rfl; exact yes; rfl; exact yes; rfl; rfl; intro hcond; omega
      apply OL.op; exact Guard.none; rfl; rfl; apply Pev.load_keptA; rfl; exact yes; exact .head _; rfl; intro hcond; assumption; rfl; intro hcond; (rw [add_block]; assumption); intro hcond; exact NotOwned.nil
      apply OL.alloc; rfl; rfl; exact CellsL.agg; (intro bk hbk; simp only [AllLe, and_true] at hbk)
      apply OL.storeB; rfl; rfl; exact CellsL.agg; rfl; rfl; rfl; apply Swap.z; apply Put.here; apply Over.cons; apply Over.cons; apply Over.cons; apply Over.cons; apply Over.cons; apply Over.cons; apply Over.nil
      apply OL.nil
      with_reducible apply At.next
      apply W.seq
      apply W.reg
      apply ofa; rfl; rfl; rfl
      apply old; rfl; rfl; exact .head _; rfl; rfl
      apply OL.op; exact Guard.none; rfl; rfl; apply Pev.len_slice; rfl; exact yes; rfl
      apply omv; rfl; rfl
      apply OL.nil
      with_reducible apply At.next
      apply W.block
      revert bk
      intro b8 hb8
      refine W.loop (G := Nat) (fun r => r ≤ kids.length) (fun r => kids.length - r)
        (fun r => [(0, true, .slice (some a) t.length cap), (5, true, .int .i64 (i : Int)), (6, true, .int .i64 (((fp ++ kids.take r).count (i : Int) : Nat) : Int)), (44, true, .int .i64 (((t.length : Int) - 1).toNat : Int)), (45, true, .int .i64 (i : Int)), (48, true, .slice (some a) t.length cap), (49, true, .int .i64 (t.length : Int)), (50, true, .int .i64 (p : Int)), (55, true, .slice kq kids.length kcap), (56, true, .int .i64 (kids.length : Int)), (57, true, .int .i64 (r : Int))])
        (fun r => Cls [blk b8 60 [.int .i64 kind, .string text, .int .i64 nn, .slice kq kids.length kcap, .int .i64 line, .int .i64 col]] [w]) 0 (by omega) ?_ (fun w' hw' => hw') ?_
      · rw [List.take_zero, List.append_nil]
        (repeat (first | exact Sub.nil | apply Sub.cons rfl | (refine Sub.cons_eq rfl (congrArg (Value.int .i64) (by first | omega | (simp only; omega))) ?_)))
      rintro r hr
      apply W.seq
      apply W.reg
      apply obn; rfl; rfl; rfl; apply Bin.lss
      apply OL.nil
      with_reducible apply At.next
      apply W.seq
      (refine W.cond rfl (fun hlt5 => ?_) (fun hlt5 => ?_)) <;> (try (simp only [Bool.and_eq_true, Bool.or_eq_true, Bool.not_eq_true', Bool.and_eq_false_iff, Bool.or_eq_false_iff, Bool.not_eq_false', decide_eq_true_eq, decide_eq_false_iff_not, Int.not_lt, Int.not_le] at hlt5)) <;> (try (exfalso; first | omega | exact hlt5 trivial | contradiction))
      · have hrl : r < kids.length := by omega
        obtain ⟨ak, x, rfl, hakb, hx, hcell⟩ := SlAt.int hks hrl
        have hcb : (fp ++ kids.take r).count (i : Int) ≤ 42362000000000000 := by
          have h1 := List.count_le_length (a := (i : Int)) (l := fp ++ kids.take r)
          rw [List.length_append, List.length_take] at h1
          omega
        have hst : (fp ++ kids.take (r + 1)).count (i : Int) = (fp ++ kids.take r).count (i : Int) + if x = (i : Int) then 1 else 0 := by
          rw [take_one hx, ← List.append_assoc, List.count_append, List.count_singleton]
          simp
        generalize (fp ++ kids.take r).count (i : Int) = cc at *
        apply W.skip
        with_reducible apply At.next
        apply W.seq
        apply W.block
        apply W.seq
        apply W.reg
        apply OL.op; exact Guard.none; rfl; rfl; apply Pev.idx; rfl; exact yes; rfl; exact yes; rfl; rfl; intro hcond; omega
        apply OL.op; exact Guard.none; rfl; rfl; apply Pev.load_kept; rfl; exact yes; exact .head _; rfl; intro hcond; assumption; intro hcond; (rw [add_block]; assumption); intro hcond; simp only [add_block]; refine NotOwned.blk (by omega) ?_; exact NotOwned.nil
        apply oas; rfl; rfl
        apply OL.nil
        with_reducible apply At.next
        apply W.seq
        apply W.reg
        apply omv; rfl; rfl
        apply omv; rfl; rfl
        apply obn; rfl; rfl; rfl; apply Bin.eql
        apply OL.nil
        with_reducible apply At.next
        (refine W.cond rfl (fun heq => ?_) (fun heq => ?_)) <;> (try (simp only [Bool.and_eq_true, Bool.or_eq_true, Bool.not_eq_true', Bool.and_eq_false_iff, Bool.or_eq_false_iff, Bool.not_eq_false', decide_eq_true_eq, decide_eq_false_iff_not, Int.not_lt, Int.not_le] at heq)) <;> (try (exfalso; first | omega | exact heq trivial | contradiction))
        · rw [if_pos heq] at hst
          apply W.reg
          apply omv; rfl; rfl
          apply obn; rfl; rfl; rfl; apply Bin.add_in; omega
          apply oas; rfl; rfl
          apply OL.nil
          with_reducible apply At.in_normal
          with_reducible apply At.next
          apply W.reg
          apply obn; rfl; rfl; rfl; apply Bin.add_in; omega
          apply omv; rfl; rfl
          apply OL.nil
          exact At.again (r + 1) (by omega) (by omega) (by rw [hst]; (repeat (first | exact Sub.nil | apply Sub.cons rfl | (refine Sub.cons_eq rfl (congrArg (Value.int .i64) (by first | omega | (simp only; omega))) ?_)))) (fun w' hw' => hw')
        · rw [if_neg heq] at hst
          apply W.skip
          with_reducible apply At.in_normal
          with_reducible apply At.next
          apply W.reg
          apply obn; rfl; rfl; rfl; apply Bin.add_in; omega
          apply omv; rfl; rfl
          apply OL.nil
          exact At.again (r + 1) (by omega) (by omega) (by rw [hst]; (repeat (first | exact Sub.nil | apply Sub.cons rfl | (refine Sub.cons_eq rfl (congrArg (Value.int .i64) (by first | omega | (simp only; omega))) ?_)))) (fun w' hw' => hw')
      · have hre : r = kids.length := by omega
        subst hre
        apply W.exit
        with_reducible apply At.then_exit
        with_reducible apply At.then_exit
        with_reducible apply At.in_exit
        with_reducible apply At.in_normal
        with_reducible apply At.next
        apply W.reg
        apply obn; rfl; rfl; rfl; apply Bin.add_in; omega
        apply omv; rfl; rfl
        apply OL.nil
        exact At.again (p + 1) (by omega) (by omega) (by rw [take_all, hfs]; (repeat (first | exact Sub.nil | apply Sub.cons rfl | (refine Sub.cons_eq rfl (congrArg (Value.int .i64) (by first | omega | (simp only; omega))) ?_)))) (fun w' hw' => hw'.thin (by (repeat (first | exact Thin.nil | exact Thin.same | apply Thin.keep | (refine Thin.blk (by assumption) ?_) | (refine Thin.blk (by simp only [AllLe, and_true]; omega) ?_)))))
    · have hpe : p = t.length := by omega
      subst hpe
      rw [List.take_length]
      apply W.exit
      with_reducible apply At.then_exit
      with_reducible apply At.then_exit
      with_reducible apply At.in_exit
      with_reducible apply At.next
      apply W.seq
      apply W.reg
      apply omv; rfl; rfl
      apply obn; rfl; rfl; rfl; apply Bin.neq
      apply OL.nil
      with_reducible apply At.next
      refine W.cond rfl (fun hb => ?_) (fun hb => ?_)
      · rw [if_neg (fun h => by have := h i (by omega); rw [this] at hb; simp at hb)] at ht
        apply W.seq
        apply W.reg
        apply oas; rfl; rfl
        apply OL.nil
        with_reducible apply At.next
        apply W.ret
        with_reducible apply At.in_ret
        with_reducible apply At.then_ret
        with_reducible apply At.then_ret
        with_reducible apply At.in_ret
        with_reducible apply At.then_ret
        ((with_reducible apply At.fin1); rfl; rfl; intro w' hw')
        exact ⟨by rw [ht], by (exact hw'.toExt (by (repeat (first | exact List.Mem.head _ | apply List.Mem.tail))) (fun k hk => by (focus ((try simp only [add_block]); (repeat (first | exact NotOwned.nil | exact hno _ (by omega) | refine NotOwned.nothing ?_ | refine NotOwned.nds (hlow _ (by omega)) ?_ | refine NotOwned.mapS (by omega) ?_ | apply NotOwned.bif | refine NotOwned.blk (by omega) ?_ | refine NotOwned.row (by omega) ?_ | refine NotOwned.grid (by assumption) (by omega) ?_)); done))))⟩
      · apply W.skip
        with_reducible apply At.in_normal
        with_reducible apply At.next
        apply W.reg
        apply obn; rfl; rfl; rfl; apply Bin.add_in; omega
        apply omv; rfl; rfl
        apply OL.nil
        refine At.again (i + 1) ⟨by omega, fun j hj => ?_⟩ (by omega) (by (repeat (first | exact Sub.nil | apply Sub.cons rfl | (refine Sub.cons_eq rfl (congrArg (Value.int .i64) (by first | omega | (simp only; omega))) ?_)))) (fun w' hw' => hw')
        by_cases e : j = i
        · subst e
          simp at hb
          omega
        · exact hc j (by omega)
  · rw [if_pos (fun j hj => hc j (by omega))] at ht
    apply W.exit
    with_reducible apply At.then_exit
    with_reducible apply At.then_exit
    with_reducible apply At.in_exit
    with_reducible apply At.next
    apply W.seq
    apply W.reg
    apply oas; rfl; rfl
    apply OL.nil
    with_reducible apply At.next
    apply W.ret
    ((with_reducible apply At.fin1); rfl; rfl; intro w' hw')
    exact ⟨by rw [ht], by (exact hw'.toExt (by (repeat (first | exact List.Mem.head _ | apply List.Mem.tail))) (fun k hk => by (focus ((try simp only [add_block]); (repeat (first | exact NotOwned.nil | exact hno _ (by omega) | refine NotOwned.nothing ?_ | refine NotOwned.nds (hlow _ (by omega)) ?_ | refine NotOwned.mapS (by omega) ?_ | apply NotOwned.bif | refine NotOwned.blk (by omega) ?_ | refine NotOwned.row (by omega) ?_ | refine NotOwned.grid (by assumption) (by omega) ?_)); done))))⟩

/-- the law's own tree -/
def t1 : Nk := ⟨38, ⟨#[]⟩, 0, [], none, 0, 0, 0⟩
theorem law_calls (q : Option Addr) (cap : Nat) (t : List Nk) (w : World) (hlen : t.length ≤ 9223372036854775807) (hcap : t.length ≤ cap) (hn : NodesAt w q t) :
    Calls Try.prog 5 #[.slice q t.length cap] w fun e w' => e = .returned (.bool true) ∧ Ext w w' := by
  refine enter Try.func5 rfl Try.ntmps5 rfl (Cls.start w) ?_
  (simp only [argEnv, Nat.zero_add, Nat.reduceAdd])
  apply W.seq
  apply W.reg
  apply oas; rfl; rfl
  apply OL.nil
  with_reducible apply At.next
  apply W.seq
  apply W.seq
  apply W.reg
  apply OL.op; exact Guard.none; rfl; rfl; apply Pev.build; rfl; exact CellsL.agg; rfl; apply Fill.cons rfl; exact CellsL.one rfl; rfl; rfl; apply Put.here; apply Over.cons; apply Over.nil; apply Fill.nil; rfl
  apply OL.buildSlice; rfl; rfl; rfl; apply Elems.cons rfl; exact CellsL.agg; rfl; apply Elems.nil; apply App.cons; apply App.cons; apply App.cons; apply App.cons; apply App.cons; apply App.cons; apply App.nil; rfl; rfl; (intro bk hbk; simp only [AllLe, and_true] at hbk)
  have hn1 : ∀ w2, Cls [blk bk 60 (nc t1)] [w] w2 → NodesAt w2 (some ⟨bk, 0, none⟩) [t1] := fun w2 hw2 =>
    ⟨SlAt.of_blk (o := 0) (hw2.item (.head _)) (fun j v hj => by rw [Nat.zero_add]; rw [cat_one] at hj; exact hj), fun u hu => by
      rw [List.mem_singleton.1 hu]
      exact ⟨by decide, SlAt.nil⟩⟩
  have ht1 : treeE [t1] = 3 := by decide
  (((first | (with_reducible apply OL.op) | (with_reducible apply QL.op)); ((first | exact Guard.none | exact Guard.yes rfl rfl | exact Guard.no rfl rfl | exact Guard.cyes rfl rfl | exact Guard.cno rfl rfl)); rfl; rfl); (refine Pev.call (v := .int .i64 3) rfl (by (repeat (first | exact Args.nil | (apply Args.cons rfl; ((first | exact fun _ => rfl | exact fun h => h | (intro h; simp_all; done))))))) (fun _ w2 hw2 => ((Check_calls [t1] (some ⟨bk, 0, none⟩) 1 w2 (by decide) (hn1 w2 hw2)).mono (fun e w3 h => ⟨by rw [h.1, ht1], hw2.ext h.2⟩)))))
  apply obn; rfl; rfl; rfl; apply Bin.neq
  apply OL.nil
  with_reducible apply At.next
  refine W.cond rfl (fun hb => by simp at hb) (fun _ => ?_)
  apply W.skip
  with_reducible apply At.next
  apply W.seq
  apply W.reg
  apply omv; rfl; rfl
  apply OL.op; exact Guard.none; rfl; rfl; apply Pev.len_slice; rfl; exact yes; rfl
  apply obn; rfl; rfl; rfl; apply Bin.gtr
  apply omv; rfl; rfl
  apply OL.op; exact Guard.no rfl rfl; rfl; rfl; apply Pev.move; rfl; exact yes
  by_cases hl : 300 < t.length
  · have hc : decide ((300 : Int) < (t.length : Int)) = true := decide_eq_true (by omega)
    rw [hc]
    apply OL.gateOff; exact Guard.no rfl rfl; rfl; rfl
    apply OL.op; exact Guard.no rfl rfl; rfl; rfl; apply Pev.move; rfl; exact yes
    apply OL.gateOff; exact Guard.no rfl rfl; rfl; rfl
    apply OL.gateOff; exact Guard.no rfl rfl; rfl; rfl
    apply OL.op; exact Guard.none; rfl; rfl; apply Pev.pick_on; rfl; exact yes; (intro hcond; rfl); rfl; exact yes
    apply oas; rfl; rfl
    apply OL.nil
    with_reducible apply At.next
    apply W.ret
    ((with_reducible apply At.fin1); rfl; rfl; intro w' hw')
    exact ⟨rfl, by (exact hw'.toExt (by (repeat (first | exact List.Mem.head _ | apply List.Mem.tail))) (fun k hk => by (focus ((try simp only [add_block]); (repeat (first | exact NotOwned.nil | exact hno _ (by omega) | refine NotOwned.nothing ?_ | refine NotOwned.nds (hlow _ (by omega)) ?_ | refine NotOwned.mapS (by omega) ?_ | apply NotOwned.bif | refine NotOwned.blk (by omega) ?_ | refine NotOwned.row (by omega) ?_ | refine NotOwned.grid (by assumption) (by omega) ?_)); done))))⟩
  · (((first | (with_reducible apply OL.op) | (with_reducible apply QL.op)); ((first | exact Guard.none | exact Guard.yes rfl rfl | exact Guard.no rfl rfl | exact Guard.cyes rfl rfl | exact Guard.cno rfl rfl)); rfl; rfl); (exact Pev.call rfl (by (repeat (first | exact Args.nil | (apply Args.cons rfl; ((first | exact fun _ => rfl | exact fun h => h | (intro h; simp_all; done))))))) (fun _ w2 hw2 => (Check_calls t q cap w2 (by omega) (hn.ext (hw2.toExt (by (repeat (first | exact List.Mem.head _ | apply List.Mem.tail))) (fun k hk => by (focus ((try simp only [add_block]); (repeat (first | exact NotOwned.nil | exact hno _ (by omega) | refine NotOwned.nothing ?_ | refine NotOwned.nds (hlow _ (by omega)) ?_ | refine NotOwned.mapS (by omega) ?_ | apply NotOwned.bif | refine NotOwned.blk (by omega) ?_ | refine NotOwned.row (by omega) ?_ | refine NotOwned.grid (by assumption) (by omega) ?_)); done)))))).mono (fun e w3 h => ⟨h.1, hw2.ext h.2⟩))))
    apply OL.op; exact Guard.no rfl rfl; rfl; rfl; apply Pev.move; rfl; exact yes
    (((first | (with_reducible apply OL.op) | (with_reducible apply QL.op)); ((first | exact Guard.none | exact Guard.yes rfl rfl | exact Guard.no rfl rfl | exact Guard.cyes rfl rfl | exact Guard.cno rfl rfl)); rfl; rfl); (exact Pev.call rfl (by (repeat (first | exact Args.nil | (apply Args.cons rfl; ((first | exact fun _ => rfl | exact fun h => h | (intro h; simp_all; done))))))) (fun _ w2 hw2 => (TreeError_calls t q cap w2 (by omega) hcap (hn.ext (hw2.toExt (by (repeat (first | exact List.Mem.head _ | apply List.Mem.tail))) (fun k hk => by (focus ((try simp only [add_block]); (repeat (first | exact NotOwned.nil | exact hno _ (by omega) | refine NotOwned.nothing ?_ | refine NotOwned.nds (hlow _ (by omega)) ?_ | refine NotOwned.mapS (by omega) ?_ | apply NotOwned.bif | refine NotOwned.blk (by omega) ?_ | refine NotOwned.row (by omega) ?_ | refine NotOwned.grid (by assumption) (by omega) ?_)); done)))))).mono (fun e w3 h => ⟨h.1, hw2.ext h.2⟩))))
    apply OL.op; exact Guard.no rfl rfl; rfl; rfl; apply Pev.bin; rfl; exact fun h => h; rfl; exact fun h => h; intro hcond; apply Bin.eql
    apply OL.op; exact Guard.none; rfl; rfl; apply Pev.pick_or; rfl; exact yes; rfl; exact fun h => h
    apply oas; rfl; rfl
    apply OL.nil
    with_reducible apply At.next
    apply W.ret
    ((with_reducible apply At.fin1); rfl; rfl; intro w' hw')
    exact ⟨congrArg (fun b => Ending.returned (Value.bool b)) (by simp), by (exact hw'.toExt (by (repeat (first | exact List.Mem.head _ | apply List.Mem.tail))) (fun k hk => by (focus ((try simp only [add_block]); (repeat (first | exact NotOwned.nil | exact hno _ (by omega) | refine NotOwned.nothing ?_ | refine NotOwned.nds (hlow _ (by omega)) ?_ | refine NotOwned.mapS (by omega) ?_ | apply NotOwned.bif | refine NotOwned.blk (by omega) ?_ | refine NotOwned.row (by omega) ?_ | refine NotOwned.grid (by assumption) (by omega) ?_)); done))))⟩
end Go.Proofs.Ytlcclcakdfmgkaa.pk
