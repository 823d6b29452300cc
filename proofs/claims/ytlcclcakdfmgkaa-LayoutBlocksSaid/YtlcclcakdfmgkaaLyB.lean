/- The walks of the marker's line and inner, of ContainsFunc at contexts, of is and opens. Conditions: none. -/
import Derived.Test.YtlcclcakdfmgkaaLyA
namespace Go.Proofs.Ytlcclcakdfmgkaa.ly
open Go.RowKit Go.Eng Go.Ly
set_option linter.unusedVariables false
set_option linter.unusedSimpArgs false
set_option maxRecDepth 100000

theorem is_calls (t : Tok) (k : Int) (s : BA) (w : World) : Calls Try.prog 31 #[.agg (tc t).toArray, .int .i64 k, .string s] w fun e w' => e = .returned (.bool (isT t k s)) ∧ Ext w w' := by
  refine enter Try.func31 rfl Try.ntmps31 rfl (Cls.start w) ?_
  (simp only [argEnv, Nat.zero_add, Nat.reduceAdd])
  apply W.seq
  apply W.reg
  apply OL.box; rfl; rfl; exact CellsL.agg; (intro bk hbk; simp only [AllLe, and_true] at hbk)
  apply oas; rfl; rfl
  apply OL.nil
  with_reducible apply At.next
  apply W.seq
  apply W.reg
  apply ofa; rfl; rfl; rfl
  apply old; rfl; rfl; exact .head _; rfl; rfl
  apply omv; rfl; rfl
  apply obn; rfl; rfl; rfl; apply Bin.eql
  apply omv; rfl; rfl
  apply OL.op; exact Guard.yes rfl rfl; rfl; rfl; apply Pev.fld; rfl; exact yes; rfl
  apply OL.op; exact Guard.yes rfl rfl; rfl; rfl; apply Pev.load_blk; rfl; exact fun h => h; exact .head _; rfl; rfl
  apply OL.op; exact Guard.yes rfl rfl; rfl; rfl; apply Pev.move; rfl; exact yes
  apply OL.op; exact Guard.yes rfl rfl; rfl; rfl; apply Pev.bin; rfl; exact fun h => h; rfl; exact fun h => h; intro hcond; apply Bin.str_eql
  apply OL.op; exact Guard.none; rfl; rfl; apply Pev.pick_and; rfl; exact yes; rfl; exact fun h => h
  apply oas; rfl; rfl
  apply OL.nil
  with_reducible apply At.next
  apply W.ret
  ((with_reducible apply At.fin1); rfl; rfl; intro w' hw')
  exact ⟨rfl, by (exact hw'.toExt (by (repeat (first | exact List.Mem.head _ | apply List.Mem.tail))) (fun k hk => by (focus ((try simp only [add_block]); (repeat (first | exact NotOwned.nil | exact hno _ (by omega) | refine NotOwned.nothing ?_ | refine NotOwned.nds (hlow _ (by omega)) ?_ | refine NotOwned.mapS (by omega) ?_ | apply NotOwned.bif | refine NotOwned.blk (by omega) ?_ | refine NotOwned.row (by omega) ?_ | refine NotOwned.grid (by assumption) (by omega) ?_)); done))))⟩
theorem opens_calls (t : Tok) (w : World) : Calls Try.prog 30 #[.agg (tc t).toArray] w fun e w' => e = .returned (.bool (opT t)) ∧ Ext w w' := by
  refine enter Try.func30 rfl Try.ntmps30 rfl (Cls.start w) ?_
  (simp only [argEnv, Nat.zero_add, Nat.reduceAdd])
  apply W.seq
  apply W.reg
  apply OL.box; rfl; rfl; exact CellsL.agg; (intro bk hbk; simp only [AllLe, and_true] at hbk)
  apply oas; rfl; rfl
  apply OL.nil
  with_reducible apply At.next
  apply W.seq
  apply W.reg
  apply ofa; rfl; rfl; rfl
  apply old; rfl; rfl; exact .head _; rfl; rfl
  apply obn; rfl; rfl; rfl; apply Bin.eql
  apply omv; rfl; rfl
  apply OL.op; exact Guard.yes rfl rfl; rfl; rfl; apply Pev.fld; rfl; exact yes; rfl
  apply OL.op; exact Guard.yes rfl rfl; rfl; rfl; apply Pev.load_blk; rfl; exact fun h => h; exact .head _; rfl; rfl
  apply OL.op; exact Guard.yes rfl rfl; rfl; rfl; apply Pev.bin; rfl; exact fun h => h; rfl; exact yes; intro hcond; apply Bin.str_eql
  apply OL.op; exact Guard.yes rfl rfl; rfl; rfl; apply Pev.move; rfl; exact fun h => h
  apply OL.op; exact Guard.cno rfl rfl; rfl; rfl; apply Pev.fld; rfl; exact yes; rfl
  apply OL.op; exact Guard.cno rfl rfl; rfl; rfl; apply Pev.load_blk; rfl; exact fun h => h; exact .head _; rfl; rfl
  apply OL.op; exact Guard.cno rfl rfl; rfl; rfl; apply Pev.bin; rfl; exact fun h => h; rfl; exact yes; intro hcond; apply Bin.str_eql
  apply OL.op; exact Guard.yes rfl rfl; rfl; rfl; apply Pev.pick_or; rfl; exact fun h => h; rfl; exact fun h => h
  apply OL.op; exact Guard.yes rfl rfl; rfl; rfl; apply Pev.move; rfl; exact fun h => h
  apply OL.op; exact Guard.cno rfl rfl; rfl; rfl; apply Pev.fld; rfl; exact yes; rfl
  apply OL.op; exact Guard.cno rfl rfl; rfl; rfl; apply Pev.load_blk; rfl; exact fun h => h; exact .head _; rfl; rfl
  apply OL.op; exact Guard.cno rfl rfl; rfl; rfl; apply Pev.bin; rfl; exact fun h => h; rfl; exact yes; intro hcond; apply Bin.str_eql
  apply OL.op; exact Guard.yes rfl rfl; rfl; rfl; apply Pev.pick_or; rfl; exact fun h => h; rfl; exact fun h => h
  apply OL.op; exact Guard.yes rfl rfl; rfl; rfl; apply Pev.move; rfl; exact fun h => h
  apply OL.op; exact Guard.cno rfl rfl; rfl; rfl; apply Pev.fld; rfl; exact yes; rfl
  apply OL.op; exact Guard.cno rfl rfl; rfl; rfl; apply Pev.load_blk; rfl; exact fun h => h; exact .head _; rfl; rfl
  apply OL.op; exact Guard.cno rfl rfl; rfl; rfl; apply Pev.bin; rfl; exact fun h => h; rfl; exact yes; intro hcond; apply Bin.str_eql
  apply OL.op; exact Guard.yes rfl rfl; rfl; rfl; apply Pev.pick_or; rfl; exact fun h => h; rfl; exact fun h => h
  apply OL.op; exact Guard.none; rfl; rfl; apply Pev.pick_and; rfl; exact yes; rfl; exact fun h => h
  apply oas; rfl; rfl
  apply OL.nil
  with_reducible apply At.next
  apply W.ret
  ((with_reducible apply At.fin1); rfl; rfl; intro w' hw')
  exact ⟨rfl, by (exact hw'.toExt (by (repeat (first | exact List.Mem.head _ | apply List.Mem.tail))) (fun k hk => by (focus ((try simp only [add_block]); (repeat (first | exact NotOwned.nil | exact hno _ (by omega) | refine NotOwned.nothing ?_ | refine NotOwned.nds (hlow _ (by omega)) ?_ | refine NotOwned.mapS (by omega) ?_ | apply NotOwned.bif | refine NotOwned.blk (by omega) ?_ | refine NotOwned.row (by omega) ?_ | refine NotOwned.grid (by assumption) (by omega) ?_)); done))))⟩
theorem brk_calls (c : Cx) (w : World) : Calls Try.prog 51 #[.agg (cc c).toArray] w fun e w' => e = .returned (.bool (decide (c.col = 0))) ∧ Ext w w' := by
  refine enter Try.func51 rfl Try.ntmps51 rfl (Cls.start w) ?_
  (simp only [argEnv, Nat.zero_add, Nat.reduceAdd])
  apply W.seq
  apply W.reg
  apply OL.box; rfl; rfl; exact CellsL.agg; (intro bk hbk; simp only [AllLe, and_true] at hbk)
  apply oas; rfl; rfl
  apply OL.nil
  with_reducible apply At.next
  apply W.seq
  apply W.reg
  apply ofa; rfl; rfl; rfl
  apply old; rfl; rfl; exact .head _; rfl; rfl
  apply obn; rfl; rfl; rfl; apply Bin.eql
  apply oas; rfl; rfl
  apply OL.nil
  with_reducible apply At.next
  apply W.ret
  ((with_reducible apply At.fin1); rfl; rfl; intro w' hw')
  exact ⟨rfl, by (exact hw'.toExt (by (repeat (first | exact List.Mem.head _ | apply List.Mem.tail))) (fun k hk => by (focus ((try simp only [add_block]); (repeat (first | exact NotOwned.nil | exact hno _ (by omega) | refine NotOwned.nothing ?_ | refine NotOwned.nds (hlow _ (by omega)) ?_ | refine NotOwned.mapS (by omega) ?_ | apply NotOwned.bif | refine NotOwned.blk (by omega) ?_ | refine NotOwned.row (by omega) ?_ | refine NotOwned.grid (by assumption) (by omega) ?_)); done))))⟩
theorem let_calls (c : Cx) (w : World) : Calls Try.prog 53 #[.agg (cc c).toArray] w fun e w' => e = .returned (.bool (isLet c)) ∧ Ext w w' := by
  refine enter Try.func53 rfl Try.ntmps53 rfl (Cls.start w) ?_
  (simp only [argEnv, Nat.zero_add, Nat.reduceAdd])
  apply W.seq
  apply W.reg
  apply OL.box; rfl; rfl; exact CellsL.agg; (intro bk hbk; simp only [AllLe, and_true] at hbk)
  apply oas; rfl; rfl
  apply OL.nil
  with_reducible apply At.next
  apply W.seq
  apply W.reg
  apply ofa; rfl; rfl; rfl
  apply old; rfl; rfl; exact .head _; rfl; rfl
  apply obn; rfl; rfl; rfl; apply Bin.str_eql
  apply oas; rfl; rfl
  apply OL.nil
  with_reducible apply At.next
  apply W.ret
  ((with_reducible apply At.fin1); rfl; rfl; intro w' hw')
  exact ⟨rfl, by (exact hw'.toExt (by (repeat (first | exact List.Mem.head _ | apply List.Mem.tail))) (fun k hk => by (focus ((try simp only [add_block]); (repeat (first | exact NotOwned.nil | exact hno _ (by omega) | refine NotOwned.nothing ?_ | refine NotOwned.nds (hlow _ (by omega)) ?_ | refine NotOwned.mapS (by omega) ?_ | apply NotOwned.bif | refine NotOwned.blk (by omega) ?_ | refine NotOwned.row (by omega) ?_ | refine NotOwned.grid (by assumption) (by omega) ?_)); done))))⟩

theorem IndexFunc_calls (q : Option Addr) (cap : Nat) (l : List Cx) (f : FuncId) (p : Cx → Bool) (w : World) (hlen : l.length ≤ 9223372036854775807) (h : SlAt w w.heap.size q (cat cc l))
    (hf : callable Try.prog f = true) (hp : ∀ c w', Calls Try.prog f #[.agg (cc c).toArray] w' fun e w'' => e = .returned (.bool (p c)) ∧ Ext w' w'') :
    Calls Try.prog 66 #[.slice q l.length cap, .func (.func f) #[] #[]] w fun e w' => e = .returned (.int .i64 (idxP p l 0)) ∧ Ext w w' := by
  refine enter Try.func66 rfl Try.ntmps66 rfl (Cls.start w) ?_
  (simp only [argEnv, Nat.zero_add, Nat.reduceAdd])
  apply W.seq
  apply W.reg
  apply oas; rfl; rfl
  apply OL.nil
  with_reducible apply At.next
  apply W.seq
  apply W.seq
  apply W.reg
  apply omv; rfl; rfl
  apply OL.op; exact Guard.none; rfl; rfl; apply Pev.len_slice; rfl; exact yes; rfl
  apply omv; rfl; rfl
  apply OL.nil
  with_reducible apply At.next
  apply W.block
  refine W.loop (G := Nat) (fun i => i ≤ l.length ∧ idxP p (l.drop i) i = idxP p l 0) (fun i => l.length - i)
    (fun i => [(8, true, .int .i64 (i : Int)), (7, true, .int .i64 (l.length : Int)), (0, true, .slice q l.length cap), (1, true, .func (.func f) #[] #[])])
    (fun i => Cls [] [w]) 0 ⟨by omega, rfl⟩ (by (repeat (first | exact Sub.nil | apply Sub.cons rfl | (refine Sub.cons_eq rfl (congrArg (Value.int .i64) (by omega)) ?_)))) (fun w' hw' => hw') ?_
  rintro i ⟨hi, hrest⟩
  apply W.seq
  apply W.reg
  apply obn; rfl; rfl; rfl; apply Bin.lss
  apply OL.nil
  with_reducible apply At.next
  apply W.seq
  (refine W.cond rfl (fun hlt => ?_) (fun hlt => ?_)) <;> (try (simp only [Bool.and_eq_true, Bool.or_eq_true, Bool.not_eq_true', Bool.and_eq_false_iff, Bool.or_eq_false_iff, Bool.not_eq_false', decide_eq_true_eq, decide_eq_false_iff_not, Int.not_lt, Int.not_le] at hlt)) <;> (try (exfalso; first | omega | exact hlt trivial | contradiction))
  · obtain ⟨a, u, rfl, hab, hu, hcell⟩ := h.elem clen (by decide) (show i < l.length by omega)
    rw [idxP_get hu] at hrest
    apply W.skip
    with_reducible apply At.next
    apply W.seq
    apply W.block
    apply W.seq
    apply W.reg
    apply omv; rfl; rfl
    apply oas; rfl; rfl
    apply OL.nil
    with_reducible apply At.next
    apply W.seq
    apply W.reg
    apply omv; rfl; rfl
    apply omv; rfl; rfl
    apply omv; rfl; rfl
    apply OL.op; exact Guard.none; rfl; rfl; apply Pev.idx; rfl; exact yes; rfl; exact yes; rfl; rfl; intro hcond; omega
    apply OL.op; exact Guard.none; rfl; rfl; apply Pev.load_keptA; rfl; exact yes; exact .head _; rfl; intro hcond; assumption; rfl; intro hcond; (rw [add_block]; assumption); intro hcond; exact NotOwned.nil
    (((first | (with_reducible apply OL.op) | (with_reducible apply QL.op)); ((first | exact Guard.none | exact Guard.yes rfl rfl | exact Guard.no rfl rfl | exact Guard.cyes rfl rfl | exact Guard.cno rfl rfl)); rfl; rfl); (apply Pev.callv (first := []) (cap := []) (vs := [.agg (cc u).toArray])); rfl; ((first | exact fun _ => rfl | exact fun h => h | (intro h; simp_all; done))); (exact hf); ((repeat (first | exact Args.nil | (apply Args.cons rfl; ((first | exact fun _ => rfl | exact fun h => h | (intro h; simp_all; done))))))); (exact (fun _ w2 hw2 => (hp u w2).mono (fun e w3 h => ⟨h.1, hw2.ext h.2⟩))))
    apply OL.nil
    with_reducible apply At.next
    (refine W.cond rfl (fun heq => ?_) (fun heq => ?_)) <;> (try (simp only [Bool.and_eq_true, Bool.or_eq_true, Bool.not_eq_true', Bool.and_eq_false_iff, Bool.or_eq_false_iff, Bool.not_eq_false', decide_eq_true_eq, decide_eq_false_iff_not, Int.not_lt, Int.not_le] at heq)) <;> (try (exfalso; first | omega | exact heq trivial | contradiction))
    · apply W.seq
      apply W.reg
      apply omv; rfl; rfl
      apply oas; rfl; rfl
      apply OL.nil
      with_reducible apply At.next
      apply W.ret
      with_reducible apply At.in_ret
      with_reducible apply At.then_ret
      with_reducible apply At.then_ret
      with_reducible apply At.in_ret
      with_reducible apply At.then_ret
      ((with_reducible apply At.fin1); rfl; rfl; intro w' hw')
      rw [if_pos heq] at hrest
      exact ⟨by rw [hrest], by (exact hw'.toExt (by (repeat (first | exact List.Mem.head _ | apply List.Mem.tail))) (fun k hk => by (focus ((try simp only [add_block]); (repeat (first | exact NotOwned.nil | exact hno _ (by omega) | refine NotOwned.nothing ?_ | refine NotOwned.nds (hlow _ (by omega)) ?_ | refine NotOwned.mapS (by omega) ?_ | apply NotOwned.bif | refine NotOwned.blk (by omega) ?_ | refine NotOwned.row (by omega) ?_ | refine NotOwned.grid (by assumption) (by omega) ?_)); done))))⟩
    · apply W.skip
      with_reducible apply At.in_normal
      with_reducible apply At.next
      apply W.reg
      apply obn; rfl; rfl; rfl; apply Bin.add_in; omega
      apply omv; rfl; rfl
      apply OL.nil
      rw [if_neg (by simpa using heq)] at hrest
      exact At.again (i + 1) ⟨by omega, hrest⟩ (by omega) (by (repeat (first | exact Sub.nil | apply Sub.cons rfl | (refine Sub.cons_eq rfl (congrArg (Value.int .i64) (by omega)) ?_)))) (fun w' hw' => hw')
  · apply W.exit
    with_reducible apply At.then_exit
    with_reducible apply At.then_exit
    with_reducible apply At.in_exit
    with_reducible apply At.next
    apply W.seq
    apply W.reg
    apply oas; rfl; rfl
    apply OL.nil
    with_reducible apply At.next
    apply W.ret
    ((with_reducible apply At.fin1); rfl; rfl; intro w' hw')
    rw [idxP_end (by omega)] at hrest
    exact ⟨by rw [hrest], by (exact hw'.toExt (by (repeat (first | exact List.Mem.head _ | apply List.Mem.tail))) (fun k hk => by (focus ((try simp only [add_block]); (repeat (first | exact NotOwned.nil | exact hno _ (by omega) | refine NotOwned.nothing ?_ | refine NotOwned.nds (hlow _ (by omega)) ?_ | refine NotOwned.mapS (by omega) ?_ | apply NotOwned.bif | refine NotOwned.blk (by omega) ?_ | refine NotOwned.row (by omega) ?_ | refine NotOwned.grid (by assumption) (by omega) ?_)); done))))⟩
theorem ContainsFunc_calls (q : Option Addr) (cap : Nat) (l : List Cx) (f : FuncId) (p : Cx → Bool) (w : World) (hlen : l.length ≤ 9223372036854775807) (h : SlAt w w.heap.size q (cat cc l))
    (hf : callable Try.prog f = true) (hp : ∀ c w', Calls Try.prog f #[.agg (cc c).toArray] w' fun e w'' => e = .returned (.bool (p c)) ∧ Ext w' w'') :
    Calls Try.prog 50 #[.slice q l.length cap, .func (.func f) #[] #[]] w fun e w' => e = .returned (.bool (l.any p)) ∧ Ext w w' := by
  refine enter Try.func50 rfl Try.ntmps50 rfl (Cls.start w) ?_
  (simp only [argEnv, Nat.zero_add, Nat.reduceAdd])
  apply W.seq
  apply W.reg
  apply oas; rfl; rfl
  apply OL.nil
  with_reducible apply At.next
  apply W.seq
  apply W.reg
  apply omv; rfl; rfl
  apply omv; rfl; rfl
  (((first | (with_reducible apply OL.op) | (with_reducible apply QL.op)); ((first | exact Guard.none | exact Guard.yes rfl rfl | exact Guard.no rfl rfl | exact Guard.cyes rfl rfl | exact Guard.cno rfl rfl)); rfl; rfl); (exact Pev.call rfl (by (repeat (first | exact Args.nil | (apply Args.cons rfl; ((first | exact fun _ => rfl | exact fun h => h | (intro h; simp_all; done))))))) (fun _ w2 hw2 => (IndexFunc_calls q cap l f p w2 hlen (h.keep (hw2.below (s := w) (by (repeat (first | exact List.Mem.head _ | apply List.Mem.tail))) (Nat.le_refl _) (fun k hk => by (focus ((try simp only [add_block]); (repeat (first | exact NotOwned.nil | exact hno _ (by omega) | refine NotOwned.nothing ?_ | refine NotOwned.nds (hlow _ (by omega)) ?_ | refine NotOwned.mapS (by omega) ?_ | apply NotOwned.bif | refine NotOwned.blk (by omega) ?_ | refine NotOwned.row (by omega) ?_ | refine NotOwned.grid (by assumption) (by omega) ?_)); done)))) (hw2.kp w (by (repeat (first | exact List.Mem.head _ | apply List.Mem.tail)))).size) hf hp).mono (fun e w3 h => ⟨h.1, hw2.ext h.2⟩))))
  apply obn; rfl; rfl; rfl; apply Bin.geq
  apply oas; rfl; rfl
  apply OL.nil
  with_reducible apply At.next
  apply W.ret
  ((with_reducible apply At.fin1); rfl; rfl; intro w' hw')
  exact ⟨by rw [idxP_nonneg], by (exact hw'.toExt (by (repeat (first | exact List.Mem.head _ | apply List.Mem.tail))) (fun k hk => by (focus ((try simp only [add_block]); (repeat (first | exact NotOwned.nil | exact hno _ (by omega) | refine NotOwned.nothing ?_ | refine NotOwned.nds (hlow _ (by omega)) ?_ | refine NotOwned.mapS (by omega) ?_ | apply NotOwned.bif | refine NotOwned.blk (by omega) ?_ | refine NotOwned.row (by omega) ?_ | refine NotOwned.grid (by assumption) (by omega) ?_)); done))))⟩

theorem line_calls (B mb : Nat) (s : List Cx) (out : List Tok) (y : MY) (t : Tok) (H : List Eng.Item) (S : List World) (w : World) (ht : 1 ≤ t.col) (hlen : s.length + out.length ≤ 900000) (hB : ∃ s ∈ S, B ≤ s.heap.size) (hc : Cls (MI B mb s out y H) S w) :
    Calls Try.prog 34 #[.pointer (some ⟨mb, 0, none⟩), .agg (tc t).toArray] w fun e w' => ∃ y' : MY, e = .returned (.tuple #[]) ∧ True ∧ Cls (MI B mb (lineS t (s, out)).1 (lineS t (s, out)).2 y' H) S w' := by
  refine enter Try.func34 rfl Try.ntmps34 rfl hc ?_
  (simp only [argEnv, Nat.zero_add, Nat.reduceAdd])
  apply W.seq
  apply W.reg
  apply OL.box; rfl; rfl; exact CellsL.agg; intro bk hbk
  apply OL.nil
  with_reducible apply At.next
  apply W.seq
  apply W.block
  revert bk
  intro bt hbt
  have hle : lineN t s ≤ s.length := (List.takeWhile_sublist _).length_le
  refine W.loop (G := Nat × MY) (fun g => g.1 ≤ lineN t s) (fun g => lineN t s - g.1)
    (fun g => [(0, true, .pointer (some ⟨mb, 0, none⟩)), (3, true, .pointer (some ⟨bt, 0, none⟩))])
    (fun g => Cls (MI B mb (s.drop g.1) (out ++ List.replicate g.1 (tk 7 t)) g.2 (blk bt 51 (tc t) :: H)) S) (0, y) (Nat.zero_le _) (by (repeat (first | exact Sub.nil | apply Sub.cons rfl | (refine Sub.cons_eq rfl (congrArg (Value.int .i64) (by omega)) ?_)))) (fun w' hw' => ?_) ?_
  · simpa using Cls.in3 hw'
  rintro ⟨i, y1⟩ hi
  simp only at hi ⊢
  apply W.seq
  apply W.seq
  apply W.regd0; decide +kernel; kernel_rfl; decide +kernel; exact fun w hw => hw.drew
  apply qmv; rfl; rfl
  (((first | (with_reducible apply OL.op) | (with_reducible apply QL.op)); ((first | exact Guard.none | exact Guard.yes rfl rfl | exact Guard.no rfl rfl | exact Guard.cyes rfl rfl | exact Guard.cno rfl rfl)); rfl; rfl); (exact Pev.call rfl (by (repeat (first | exact Args.nil | (apply Args.cons rfl; ((first | exact fun _ => rfl | exact fun h => h | (intro h; simp_all; done))))))) (fun _ w2 hw2 => (top_calls B mb _ _ y1 _ S w2 (by rw [List.length_drop]; omega) hw2))))
  apply QL.op; exact Guard.none; rfl; rfl; apply Pev.field; rfl; exact yes; rfl; rfl
  apply qfa; rfl; rfl; rfl
  apply qld; rfl; rfl; apply List.Mem.tail; exact .tail _ (.tail _ (.head _)); rfl; rfl
  apply qbn; rfl; rfl; rfl; apply Bin.gtr
  apply QL.nil
  with_reducible apply At.next
  (refine W.cond rfl (fun hpos => ?_) (fun hpos => ?_)) <;> (try (simp only [Bool.and_eq_true, Bool.or_eq_true, Bool.not_eq_true', Bool.and_eq_false_iff, Bool.or_eq_false_iff, Bool.not_eq_false', decide_eq_true_eq, decide_eq_false_iff_not, Int.not_lt, Int.not_le] at hpos)) <;> (try (exfalso; first | omega | exact hpos trivial | contradiction))
  · cases hd : s.drop i with
    | nil => exfalso; rw [hd] at hpos; change t.col < 0 at hpos; omega
    | cons c r =>
      rw [hd] at hpos
      have hlt := tw_yes (p := fun c => decide (t.col < c.col)) hi hd (decide_eq_true hpos)
      obtain ⟨hd1, hil⟩ := drop_next hd
      apply W.skip
      with_reducible apply At.next
      apply W.block
      apply W.seq
      apply W.reg
      apply omv; rfl; rfl
      apply OL.op; exact Guard.none; rfl; rfl; apply Pev.load_blkA; rfl; exact yes; apply List.Mem.tail; exact .tail _ (.tail _ (.head _)); rfl; apply Take.succ; apply Take.succ; apply Take.succ; apply Take.succ; apply Take.succ; apply Take.zero
      refine OL.callE (α := MY) (fun _ => .tuple #[]) (fun _ => True) (fun y2 => Cls (MI B mb (c :: r) (out ++ List.replicate i (tk 7 t) ++ [tk 7 t]) y2 (blk bt 51 (tc t) :: H)) S) rfl rfl (by (repeat (first | exact Args.nil | (apply Args.cons rfl; ((first | exact fun _ => rfl | exact fun h => h | (intro h; simp_all; done))))))) (fun w2 hw2 => put_calls B mb _ _ y1 7 t _ S w2 (by simp only [List.length_append, List.length_replicate]; omega) hB hw2) ?_
      intro y2 _
      apply OL.nil
      with_reducible apply At.next
      apply W.reg
      apply omv; rfl; rfl
      refine OL.callE (α := Unit) (fun _ => .tuple #[]) (fun _ => True) (fun _ => Cls (MI B mb r (out ++ List.replicate i (tk 7 t) ++ [tk 7 t]) y2 (blk bt 51 (tc t) :: H)) S) rfl rfl (by (repeat (first | exact Args.nil | (apply Args.cons rfl; ((first | exact fun _ => rfl | exact fun h => h | (intro h; simp_all; done))))))) (fun w2 hw2 => (pop_calls B mb c r _ y2 _ S w2 (by have := congrArg List.length hd1; rw [List.length_drop] at this; omega) hw2).mono fun _ w' h => ⟨(), h.1, trivial, h.2⟩) ?_
      intro _ _
      apply OL.nil
      with_reducible apply At.in_normal
      refine At.again (i + 1, y2) hlt (by simp only; unfold lineN at hi ⊢; omega) (by (repeat (first | exact Sub.nil | apply Sub.cons rfl | (refine Sub.cons_eq rfl (congrArg (Value.int .i64) (by omega)) ?_)))) (fun w' hw' => ?_)
      rw [hd1, ← rep_succ]; exact hw'
  · have he : i = lineN t s := tw_no (p := fun c => decide (t.col < c.col)) hi (fun c r hd => by rw [hd] at hpos; exact decide_eq_false (by have : ¬ t.col < c.col := Int.not_lt.2 hpos; exact this))
    subst he
    apply W.exit
    with_reducible apply At.then_exit
    with_reducible apply At.then_exit
    with_reducible apply At.in_exit
    with_reducible apply At.next
    apply W.seq
    apply W.regd0; decide +kernel; kernel_rfl; decide +kernel; exact fun w hw => hw.drew
    apply qmv; rfl; rfl
    (((first | (with_reducible apply OL.op) | (with_reducible apply QL.op)); ((first | exact Guard.none | exact Guard.yes rfl rfl | exact Guard.no rfl rfl | exact Guard.cyes rfl rfl | exact Guard.cno rfl rfl)); rfl; rfl); (exact Pev.call rfl (by (repeat (first | exact Args.nil | (apply Args.cons rfl; ((first | exact fun _ => rfl | exact fun h => h | (intro h; simp_all; done))))))) (fun _ w2 hw2 => (top_calls B mb _ _ y1 _ S w2 (by rw [List.length_drop]; omega) hw2))))
    apply QL.op; exact Guard.none; rfl; rfl; apply Pev.field; rfl; exact yes; rfl; rfl
    apply qfa; rfl; rfl; rfl
    apply qld; rfl; rfl; apply List.Mem.tail; exact .tail _ (.tail _ (.head _)); rfl; rfl
    apply qbn; rfl; rfl; rfl; apply Bin.eql
    apply QL.nil
    with_reducible apply At.next
    (refine W.cond rfl (fun heq => ?_) (fun heq => ?_)) <;> (try (simp only [Bool.and_eq_true, Bool.or_eq_true, Bool.not_eq_true', Bool.and_eq_false_iff, Bool.or_eq_false_iff, Bool.not_eq_false', decide_eq_true_eq, decide_eq_false_iff_not, Int.not_lt, Int.not_le] at heq)) <;> (try (exfalso; first | omega | exact heq trivial | contradiction))
    · apply W.reg
      apply omv; rfl; rfl
      apply OL.op; exact Guard.none; rfl; rfl; apply Pev.load_blkA; rfl; exact yes; apply List.Mem.tail; exact .tail _ (.tail _ (.head _)); rfl; apply Take.succ; apply Take.succ; apply Take.succ; apply Take.succ; apply Take.succ; apply Take.zero
      refine OL.callE (α := MY) (fun _ => .tuple #[]) (fun _ => True) (fun y2 => Cls (MI B mb (s.drop (lineN t s)) (out ++ List.replicate (lineN t s) (tk 7 t) ++ [tk 8 t]) y2 (blk bt 51 (tc t) :: H)) S) rfl rfl (by (repeat (first | exact Args.nil | (apply Args.cons rfl; ((first | exact fun _ => rfl | exact fun h => h | (intro h; simp_all; done))))))) (fun w2 hw2 => put_calls B mb _ _ y1 8 t _ S w2 (by simp only [List.length_append, List.length_replicate]; omega) hB hw2) ?_
      intro y2 _
      apply OL.nil
      refine At.end_ (At.fin0 rfl (fun w' hw' => ⟨y2, rfl, trivial, ?_⟩))
      unfold lineS shutN
      simp only
      rw [if_pos heq]
      exact (Cls.out3 hw').thin (Thin.blk (by assumption) Thin.same)
    · apply W.skip
      refine At.end_ (At.fin0 rfl (fun w' hw' => ⟨y1, rfl, trivial, ?_⟩))
      unfold lineS shutN
      simp only
      rw [if_neg heq, List.append_nil]
      exact (Cls.out3 hw').thin (Thin.blk (by assumption) Thin.same)
end Go.Proofs.Ytlcclcakdfmgkaa.ly
