/- The walk of Build. Conditions: none. -/
import Derived.Test.YtmmjkpbpmhaooaaFxC
namespace Go.Proofs.Ytmmjkpbpmhaooaa.fx
open Go.RowKit Go.Eng Go.Fx
set_option linter.unusedVariables false
set_option maxRecDepth 100000

/-- do operands and operators alternate? from place i on -/
def alt (i : Nat) : List Itm → Bool
  | [] => true
  | x :: r => (decide (x.op = ⟨#[]⟩) == decide (i % 2 = 0)) && alt (i + 1) r
theorem alt_step {l : List Itm} {i : Nat} {x : Itm} (h : l[i]? = some x) : alt i (l.drop i) = ((decide (x.op = ⟨#[]⟩) == decide (i % 2 = 0)) && alt (i + 1) (l.drop (i + 1))) := by
  obtain ⟨hl, rfl⟩ := List.getElem?_eq_some_iff.1 h
  rw [List.drop_eq_getElem_cons hl, alt]
/-- the tree of a sequence by climbing -/
def climbT (table : List Sig) (its : List Itm) : Option T :=
  (loopP its.length 0 ⟨⟨#[]⟩, 0, -1⟩ ⟨⟨#[]⟩, 0, -1⟩ (.leaf (its.getD 0 ⟨⟨#[]⟩, 0⟩).n) (pairs table (its.drop 1))).map (·.1)
/-- what Build returns -/
def bldR (table : List Sig) (its : List Itm) : List Nod × Int :=
  if chkF [] table ≠ 0 then ([], chkF [] table) else if its.length % 2 = 0 then ([], 3) else if alt 0 its = false then ([], 3) else match climbT table its with
    | none => ([], 5)
    | some t => (flat 0 t, 0)
theorem chkF_levels : ∀ (r pre : List Sig), chkF pre r = 0 → ∀ x ∈ r, 0 ≤ x.lev ∧ x.lev ≤ 9 ∧ 0 ≤ x.side ∧ x.side ≤ 2
  | [], _, _, x, hx => by cases hx
  | y :: r, pre, h, x, hx => by
    rw [chkF] at h
    split at h
    · cases h
    · split at h
      · cases h
      · rename_i h2
        split at h
        · cases h
        · rcases List.mem_cons.1 hx with rfl | hx
          · simp only [not_or, Int.not_lt] at h2
            exact ⟨h2.2.2.1, h2.2.2.2, h2.1, h2.2.1⟩
          · exact chkF_levels r _ h x hx
theorem find_ok {table : List Sig} (h : chkF [] table = 0) (op : ByteArray) : 0 ≤ (find table op).lev ∧ (find table op).lev ≤ 9 ∧ 0 ≤ (find table op).side ∧ (find table op).side ≤ 2 := by
  unfold find
  cases hf : table.find? fun x => decide (x.op = op) with
  | none => simp
  | some x => exact chkF_levels table [] h x (List.mem_of_find?_eq_some hf)

theorem Build_calls (table : List Sig) (its : List Itm) (tq iq : Option Addr) (tc icp : Nat) (w : World) (htl : table.length ≤ 40) (hil : its.length ≤ 60) (htc : table.length ≤ tc) (ht : SlAt w w.heap.size tq (cat sc table)) (hi : SlAt w w.heap.size iq (cat ic its)) :
    Calls Try.prog 13 #[.slice tq table.length tc, .slice iq its.length icp] w fun e w' => ∃ x : Option Addr × Nat, e = .returned (.tuple #[.slice x.1 (bldR table its).1.length x.2, .int .i64 (bldR table its).2]) ∧ SlAt w' w'.heap.size x.1 (cat nc (bldR table its).1) ∧ Ext w w' := by
  refine enter Try.func13 rfl Try.ntmps13 rfl (Cls.start w) ?_
  (simp only [argEnv, Nat.zero_add, Nat.reduceAdd])
  apply W.seq
  apply W.reg
  apply oas; rfl; rfl
  apply oas; rfl; rfl
  apply OL.nil
  with_reducible apply At.next
  apply W.seq
  apply W.reg
  apply omv; rfl; rfl
  (((first | (with_reducible apply OL.op) | (with_reducible apply QL.op)); ((first | exact Guard.none | exact Guard.yes rfl rfl | exact Guard.no rfl rfl | exact Guard.cyes rfl rfl | exact Guard.cno rfl rfl)); rfl; rfl); (refine Pev.call (v := .int .i64 (chkF [] table)) rfl (by (repeat (first | exact Args.nil | (apply Args.cons rfl; ((first | exact fun _ => rfl | exact fun h => h | (intro h; simp_all; done))))))) (fun _ w2 hw2 => (Check_calls tq tc table w2 (by omega) htc (ht.keep (hw2.below (s := w) (by (repeat (first | exact List.Mem.head _ | apply List.Mem.tail))) (Nat.le_refl _) (fun k hk => by (focus ((try simp only [add_block]); (repeat (first | exact NotOwned.nil | exact hno _ (by omega) | refine NotOwned.nothing ?_ | apply NotOwned.bif | refine NotOwned.blk (by omega) ?_ | refine NotOwned.row (by omega) ?_ | refine NotOwned.grid (by assumption) (by omega) ?_)); done)))) (hw2.kp w (by (repeat (first | exact List.Mem.head _ | apply List.Mem.tail)))).size)).mono (fun e w3 h => ⟨h.1, hw2.ext h.2⟩))))
  apply oas; rfl; rfl
  apply OL.nil
  with_reducible apply At.next
  apply W.seq
  apply W.block
  apply W.seq
  apply W.reg
  apply omv; rfl; rfl
  apply obn; rfl; rfl; rfl; apply Bin.neq
  apply oas; rfl; rfl
  apply OL.nil
  with_reducible apply At.next
  (refine W.cond rfl (fun hok => ?_) (fun hok => ?_)) <;> (try (simp only [Bool.and_eq_true, Bool.or_eq_true, Bool.not_eq_true', Bool.and_eq_false_iff, Bool.or_eq_false_iff, Bool.not_eq_false', decide_eq_true_eq, decide_eq_false_iff_not, Int.not_lt, Int.not_le] at hok)) <;> (try (exfalso; first | omega | exact hok trivial | contradiction))
  · have hR : bldR table its = ([], chkF [] table) := by rw [bldR, if_pos hok]
    apply W.seq
    apply W.reg
    apply omv; rfl; rfl
    apply oas; rfl; rfl
    apply oas; rfl; rfl
    apply OL.nil
    with_reducible apply At.next
    apply W.ret
    with_reducible apply At.in_ret
    with_reducible apply At.then_ret
    ((with_reducible apply At.fin2); rfl; rfl; rfl; intro w' hw')
    exact ⟨(none, 0), by rw [hR]; rfl, by rw [hR]; exact SlAt.nil, by (exact hw'.toExt (by (repeat (first | exact List.Mem.head _ | apply List.Mem.tail))) (fun k hk => by (focus ((try simp only [add_block]); (repeat (first | exact NotOwned.nil | exact hno _ (by omega) | refine NotOwned.nothing ?_ | apply NotOwned.bif | refine NotOwned.blk (by omega) ?_ | refine NotOwned.row (by omega) ?_ | refine NotOwned.grid (by assumption) (by omega) ?_)); done))))⟩
  · have hok' : chkF [] table = 0 := by simpa using hok
    apply W.seq
    apply W.reg
    apply omv; rfl; rfl
    apply OL.op; exact Guard.none; rfl; rfl; apply Pev.len_slice; rfl; exact yes; rfl
    apply obn; rfl; rfl; rfl; apply Bin.gtr
    apply oas; rfl; rfl
    apply OL.nil
    with_reducible apply At.next
    refine W.cond rfl (fun hc => by rw [decide_eq_true_eq] at hc; omega) (fun _ => ?_)
    apply W.seq
    apply W.reg
    apply omv; rfl; rfl
    apply OL.op; exact Guard.none; rfl; rfl; apply Pev.len_slice; rfl; exact yes; rfl
    apply obn; rfl; rfl; rfl; apply Bin.rem_in; omega
    apply obn; rfl; rfl; rfl; apply Bin.eql
    apply oas; rfl; rfl
    apply OL.nil
    with_reducible apply At.next
    (refine W.cond rfl (fun hev => ?_) (fun hev => ?_)) <;> (try (simp only [Bool.and_eq_true, Bool.or_eq_true, Bool.not_eq_true', Bool.and_eq_false_iff, Bool.or_eq_false_iff, Bool.not_eq_false', decide_eq_true_eq, decide_eq_false_iff_not, Int.not_lt, Int.not_le] at hev)) <;> (try (exfalso; first | omega | exact hev trivial | contradiction))
    · have hR : bldR table its = ([], 3) := by rw [bldR, if_neg (by simpa using hok'), if_pos (by omega)]
      apply W.seq
      apply W.reg
      apply oas; rfl; rfl
      apply oas; rfl; rfl
      apply OL.nil
      with_reducible apply At.next
      apply W.ret
      with_reducible apply At.in_ret
      with_reducible apply At.then_ret
      ((with_reducible apply At.fin2); rfl; rfl; rfl; intro w' hw')
      exact ⟨(none, 0), by rw [hR]; rfl, by rw [hR]; exact SlAt.nil, by (exact hw'.toExt (by (repeat (first | exact List.Mem.head _ | apply List.Mem.tail))) (fun k hk => by (focus ((try simp only [add_block]); (repeat (first | exact NotOwned.nil | exact hno _ (by omega) | refine NotOwned.nothing ?_ | apply NotOwned.bif | refine NotOwned.blk (by omega) ?_ | refine NotOwned.row (by omega) ?_ | refine NotOwned.grid (by assumption) (by omega) ?_)); done))))⟩
    · have hodd : its.length % 2 = 1 := by omega
      apply W.skip
      with_reducible apply At.in_normal
      with_reducible apply At.next
      apply W.seq
      apply W.seq
      apply W.reg
      apply omv; rfl; rfl
      apply OL.op; exact Guard.none; rfl; rfl; apply Pev.len_slice; rfl; exact yes; rfl
      apply omv; rfl; rfl
      apply OL.nil
      with_reducible apply At.next
      apply W.block
      refine W.loop (G := Nat) (fun i => i ≤ its.length ∧ alt i (its.drop i) = alt 0 its) (fun i => its.length - i)
        (fun i => [(27, true, .int .i64 (i : Int)), (26, true, .int .i64 (its.length : Int)), (25, true, .slice iq its.length icp), (0, true, .slice tq table.length tc), (1, true, .slice iq its.length icp)])
        (fun i => Cls [] [w]) 0 ⟨by omega, rfl⟩ (by (repeat (first | exact Sub.nil | apply Sub.cons rfl))) (fun w' hw' => hw') ?_
      rintro i ⟨hii, hrest⟩
      apply W.seq
      apply W.reg
      apply obn; rfl; rfl; rfl; apply Bin.lss
      apply OL.nil
      with_reducible apply At.next
      apply W.seq
      (refine W.cond rfl (fun hlt => ?_) (fun hlt => ?_)) <;> (try (simp only [Bool.and_eq_true, Bool.or_eq_true, Bool.not_eq_true', Bool.and_eq_false_iff, Bool.or_eq_false_iff, Bool.not_eq_false', decide_eq_true_eq, decide_eq_false_iff_not, Int.not_lt, Int.not_le] at hlt)) <;> (try (exfalso; first | omega | exact hlt trivial | contradiction))
      · obtain ⟨a, x, rfl, hab, hx, hcell⟩ := hi.elem ilen (by decide) (show i < its.length by omega)
        unfold ic at hcell
        rw [alt_step hx] at hrest
        apply W.skip
        with_reducible apply At.next
        apply W.seq
        apply W.block
        apply W.seq
        apply W.reg
        apply omv; rfl; rfl
        apply OL.op; exact Guard.none; rfl; rfl; apply Pev.idx; rfl; exact yes; rfl; exact yes; rfl; rfl; intro hcond; omega
        apply OL.op; exact Guard.none; rfl; rfl; apply Pev.load_keptA; rfl; exact yes; exact .head _; rfl; intro hcond; assumption; rfl; intro hcond; (rw [add_block]; assumption); intro hcond; exact NotOwned.nil
        apply OL.alloc; rfl; rfl; exact CellsL.agg; (intro bk hbk; simp only [AllLe, and_true] at hbk)
        apply oas; rfl; rfl
        apply OL.storeB; rfl; rfl; exact CellsL.agg; rfl; rfl; rfl; apply Swap.z; apply Put.here; apply Over.cons; apply Over.cons; apply Over.nil
        apply OL.nil
        with_reducible apply At.next
        apply W.seq
        apply W.reg
        apply ofa; rfl; rfl; rfl
        apply old; rfl; rfl; exact .head _; rfl; rfl
        apply obn; rfl; rfl; rfl; apply Bin.str_eql
        apply omv; rfl; rfl
        apply obn; rfl; rfl; rfl; apply Bin.rem_in; omega
        apply obn; rfl; rfl; rfl; apply Bin.eql
        apply obn; rfl; rfl; rfl; apply Bin.bool_neq; rfl
        apply OL.nil
        with_reducible apply At.next
        have hdi : decide ((i : Int) % 2 = 0) = decide (i % 2 = 0) := by
          by_cases e : i % 2 = 0
          · have e2 : (i : Int) % 2 = 0 := by omega
            simp [e, e2]
          · have e2 : ¬ (i : Int) % 2 = 0 := by omega
            simp [e, e2]
        rw [hdi]
        refine W.cond rfl (fun hc => ?_) (fun hc => ?_)
        · have hal : alt 0 its = false := by
            rw [← hrest]
            have : (decide (x.op = ⟨#[]⟩) == decide (i % 2 = 0)) = false := by simpa [bne] using hc
            rw [this]; rfl
          have hR : bldR table its = ([], 3) := by rw [bldR, if_neg (by simpa using hok'), if_neg (by omega), if_pos hal]
          apply W.seq
          apply W.reg
          apply oas; rfl; rfl
          apply oas; rfl; rfl
          apply OL.nil
          with_reducible apply At.next
          apply W.ret
          with_reducible apply At.in_ret
          with_reducible apply At.then_ret
          with_reducible apply At.then_ret
          with_reducible apply At.in_ret
          with_reducible apply At.then_ret
          ((with_reducible apply At.fin2); rfl; rfl; rfl; intro w' hw')
          exact ⟨(none, 0), by rw [hR]; rfl, by rw [hR]; exact SlAt.nil, by (exact hw'.toExt (by (repeat (first | exact List.Mem.head _ | apply List.Mem.tail))) (fun k hk => by (focus ((try simp only [add_block]); (repeat (first | exact NotOwned.nil | exact hno _ (by omega) | refine NotOwned.nothing ?_ | apply NotOwned.bif | refine NotOwned.blk (by omega) ?_ | refine NotOwned.row (by omega) ?_ | refine NotOwned.grid (by assumption) (by omega) ?_)); done))))⟩
        · have : (decide (x.op = ⟨#[]⟩) == decide (i % 2 = 0)) = true := by simpa [bne] using hc
          rw [this, Bool.true_and] at hrest
          apply W.skip
          with_reducible apply At.in_normal
          with_reducible apply At.next
          apply W.reg
          apply obn; rfl; rfl; rfl; apply Bin.add_in; omega
          apply omv; rfl; rfl
          apply OL.nil
          exact At.again (i + 1) ⟨by omega, hrest⟩ (by omega) (by (repeat (first | exact Sub.nil | apply Sub.cons rfl))) (fun w' hw' => hw'.thin (by (repeat (first | exact Thin.nil | exact Thin.same | apply Thin.keep | (refine Thin.blk (by assumption) ?_) | (refine Thin.blk (by simp only [AllLe, and_true]; omega) ?_)))))
      · obtain rfl : i = its.length := by omega
        rw [List.drop_length] at hrest
        have hal : alt 0 its = true := hrest.symm
        obtain ⟨a0, ha0⟩ : ∃ a0, its[0]? = some a0 := ⟨_, List.getElem?_eq_getElem (by omega)⟩
        have hg0 : its.getD 0 ⟨⟨#[]⟩, 0⟩ = a0 := by rw [List.getD_eq_getElem?_getD, ha0]; rfl
        have hpl : (pairs table (its.drop (0 + 1))).length = (its.length - 1) / 2 := pairs_len table _ _ (by rw [List.length_drop]; omega)
        apply W.exit
        with_reducible apply At.then_exit
        with_reducible apply At.then_exit
        with_reducible apply At.in_exit
        with_reducible apply At.next
        apply W.seq
        apply W.reg
        apply omv; rfl; rfl
        apply omv; rfl; rfl
        apply OL.op; exact Guard.none; rfl; rfl; apply Pev.build; rfl; exact CellsL.agg; rfl; apply Fill.cons rfl; exact CellsL.one rfl; rfl; rfl; apply Put.here; apply Over.cons; apply Over.nil; apply Fill.cons rfl; exact CellsL.one rfl; rfl; rfl; apply Put.skip; apply Put.here; apply Over.cons; apply Over.nil; apply Fill.nil; rfl
        apply OL.box; rfl; rfl; exact CellsL.agg; (intro bk hbk; simp only [AllLe, and_true] at hbk)
        apply oas; rfl; rfl
        apply OL.nil
        with_reducible apply At.next
        apply W.seq
        apply W.reg
        apply omv; rfl; rfl
        apply OL.op; exact Guard.none; rfl; rfl; apply Pev.build; rfl; exact CellsL.agg; rfl; apply Fill.cons rfl; exact CellsL.one rfl; rfl; rfl; apply Put.skip; apply Put.skip; apply Put.here; apply Over.cons; apply Over.nil; apply Fill.nil; rfl
        revert bk
        intro bb hbb
        refine OL.cls (C' := Cls (bI w.heap.size bb (.slice tq table.length tc) (.slice iq its.length icp) ((0 : Nat) : Int) [] 0 ⟨none, 0, fun _ => False⟩ []) [w]) (fun w' hw' => hw'.row_nil _ _ _) ?_
        refine OL.callE (α := CR) (fun r => .int .i64 r.idx) (fun rr => CPost table its [] 0 (loopP its.length 0 ⟨⟨#[]⟩, 0, -1⟩ ⟨⟨#[]⟩, 0, -1⟩ (.leaf a0.n) (pairs table (its.drop (0 + 1)))) rr) (fun rr => Cls (bI w.heap.size bb (.slice tq table.length tc) (.slice iq its.length icp) (rr.i : Int) rr.out rr.e rr.y []) [w]) rfl rfl (by (repeat (first | exact Args.nil | (apply Args.cons rfl; ((first | exact fun _ => rfl | exact fun h => h | (intro h; simp_all; done)))))))
          (fun w3 hw3 => climb_calls table its tq iq tc icp bb w (by omega) (by omega) ht hi hbb (fun op => ⟨(find_ok hok' op).1, (find_ok hok' op).2.1⟩) its.length its.length 0 ⟨⟨#[]⟩, 0, -1⟩ 0 a0 [] ⟨none, 0, fun _ => False⟩ [] w3 ha0 (by omega) (by omega) (by omega) (by simp) (fun k hk => NotOwned.nil) hw3) ?_
        rintro ⟨i3, out3, e3, ⟨q3, c3, O3⟩, idx3⟩ ⟨hp1, hp2, hp3, hp4⟩
        simp only at hp1 hp2 hp3 hp4
        simp only [bI]
        have hbr : bldR table its = match climbT table its with
            | none => ([], 5)
            | some t => (flat 0 t, 0) := by rw [bldR, if_neg (by simpa using hok'), if_neg (by omega), if_neg (by rw [hal]; simp)]
        rw [climbT, hg0] at hbr
        cases hrec : loopP its.length 0 ⟨⟨#[]⟩, 0, -1⟩ ⟨⟨#[]⟩, 0, -1⟩ (.leaf a0.n) (pairs table (its.drop (0 + 1))) with
        | none =>
          rw [hrec] at hp4 hbr
          simp only [Option.map_none] at hp4 hbr
          subst hp4
          apply OL.nil
          with_reducible apply At.next
          apply W.seq
          apply W.seq
          apply W.reg
          apply omv; rfl; rfl
          apply OL.op; exact Guard.none; rfl; rfl; apply Pev.nil_ptr; rfl; exact yes
          apply ofa; rfl; rfl; rfl
          apply old; rfl; rfl; exact .tail _ (.head _); rfl; rfl
          apply obn; rfl; rfl; rfl; apply Bin.neq
          apply OL.nil
          with_reducible apply At.next
          refine W.cond rfl (fun _ => ?_) (fun hc => by simp at hc)
          apply W.seq
          apply W.regd0; decide +kernel; kernel_rfl; decide +kernel; exact fun w hw => hw.drew
          apply qmv; rfl; rfl
          apply QL.op; exact Guard.none; rfl; rfl; apply Pev.nil_ptr; rfl; exact yes
          apply qfa; rfl; rfl; rfl
          apply qld; rfl; rfl; exact .tail _ (.head _); rfl; rfl
          apply qas; rfl; rfl
          apply qas; rfl; rfl
          apply QL.nil
          with_reducible apply At.next
          apply W.ret
          with_reducible apply At.then_ret
          ((with_reducible apply At.fin2); rfl; rfl; rfl; intro w' hw')
          exact ⟨(none, 0), by rw [hbr]; rfl, by rw [hbr]; exact SlAt.nil, by (exact hw'.toExt (by (repeat (first | exact List.Mem.head _ | apply List.Mem.tail))) (fun k hk => by (focus ((try simp only [add_block]); (repeat (first | exact NotOwned.nil | exact hno _ (by omega) | refine NotOwned.nothing ?_ | apply NotOwned.bif | refine NotOwned.blk (by omega) ?_ | refine NotOwned.row (by omega) ?_ | refine NotOwned.grid (by assumption) (by omega) ?_)); done))))⟩
        | some rt =>
          obtain ⟨t, r'⟩ := rt
          rw [hrec] at hp4 hbr
          obtain ⟨rfl, h2, h3, h4, h5⟩ := hp4
          simp only [Option.map_some, List.nil_append, List.length_nil] at h4 hbr
          subst h4
          apply OL.nil
          with_reducible apply At.next
          apply W.seq
          apply W.seq
          apply W.reg
          apply omv; rfl; rfl
          apply OL.op; exact Guard.none; rfl; rfl; apply Pev.nil_ptr; rfl; exact yes
          apply ofa; rfl; rfl; rfl
          apply old; rfl; rfl; exact .tail _ (.head _); rfl; rfl
          apply obn; rfl; rfl; rfl; apply Bin.neq
          apply OL.nil
          with_reducible apply At.next
          refine W.cond rfl (fun hc => by simp at hc) (fun _ => ?_)
          apply W.skip
          with_reducible apply At.next
          apply W.seq
          apply W.reg
          apply omv; rfl; rfl
          apply OL.op; exact Guard.none; rfl; rfl; apply Pev.nil_ptr; rfl; exact yes
          apply ofa; rfl; rfl; rfl
          apply old; rfl; rfl; exact .tail _ (.head _); rfl; rfl
          apply oas; rfl; rfl
          apply oas; rfl; rfl
          apply OL.nil
          with_reducible apply At.next
          apply W.ret
          ((with_reducible apply At.fin2); rfl; rfl; rfl; intro w' hw')
          refine ⟨(q3, c3), by rw [hbr], ?_, by (exact hw'.toExt (by (repeat (first | exact List.Mem.head _ | apply List.Mem.tail))) (fun k hk => by (focus ((try simp only [add_block]); (repeat (first | exact NotOwned.nil | exact hno _ (by omega) | refine NotOwned.nothing ?_ | apply NotOwned.bif | refine NotOwned.blk (by omega) ?_ | refine NotOwned.row (by omega) ?_ | refine NotOwned.grid (by assumption) (by omega) ?_)); done))))⟩
          rw [hbr]
          exact SlAt.of_row (hw'.item (i := row w.heap.size O3 q3 (flat 0 t).length c3 45 4 (cat nc (flat 0 t))) (by (repeat (first | exact List.Mem.head _ | apply List.Mem.tail))))
end Go.Proofs.Ytmmjkpbpmhaooaa.fx
