/- The walk of slices.Equal at equal lists of tokens, and of the law LayoutBlocks. Conditions: none. -/
import Derived.Test.YtlcclcakdfmgkaaLyJ
import Derived.Laws.StructEq
namespace Go.Proofs.Ytlcclcakdfmgkaa.ly
open Go.RowKit Go.Eng Go.Ly
set_option linter.unusedVariables false
set_option linter.unusedSimpArgs false
set_option maxRecDepth 100000

theorem neq_same (t : Tok) : Bin Try.prog .neq 51 (.agg (tc t).toArray) (.agg (tc t).toArray) (.bool false) := ⟨fun x y w => by
  obtain ⟨a, s, b, c, d⟩ := t
  have h1 := run_eqGuard_agg (P := Try.prog) w .neq 51 x y #[.int .i64 a, .string s, .int .i64 b, .int .i64 c, .int .i64 d] #[.int .i64 a, .string s, .int .i64 b, .int .i64 c, .int .i64 d] (by kernel_rfl)
  show (do eqGuard .neq 51 x y (.agg #[.int .i64 a, .string s, .int .i64 b, .int .i64 c, .int .i64 d]) (.agg #[.int .i64 a, .string s, .int .i64 b, .int .i64 c, .int .i64 d]); binOp .neq 51 (.agg #[.int .i64 a, .string s, .int .i64 b, .int .i64 c, .int .i64 d]) (.agg #[.int .i64 a, .string s, .int .i64 b, .int .i64 c, .int .i64 d]) : Sem Value).run _ w = _
  rw [Sem.run_bind, h1, Result.andThen_ok, run_neq_struct, run_equalIn_agg w 9999 51 _ _ (by kernel_rfl) (by kernel_rfl)]
  have hf : Try.prog.fieldsOf 51 = (match Try.prog.underlying 51 with | some (.struct fs) => fs | _ => #[]) := rfl
  rw [hf, Try.underlying51]
  simp only [Op.eqFields]
  have p1 : ∀ (w : World) (i : Nat) (v : Value) (cs : Array Value) (t : TypeId), cs[i]? = some v → scalB Try.prog t = true → (part t cs i).run Try.prog w = .ok v w := fun w i v cs t hv ht => by
    simp [part, Sem.run_bind, run_isAgg_scal ht, hv]
  have q0 := fun w => p1 w 0 (.int .i64 a) #[.int .i64 a, .string s, .int .i64 b, .int .i64 c, .int .i64 d] 3 rfl rfl
  have q1 := fun w => p1 w 1 (.string s) #[.int .i64 a, .string s, .int .i64 b, .int .i64 c, .int .i64 d] 9 rfl rfl
  have q2 := fun w => p1 w 2 (.int .i64 b) #[.int .i64 a, .string s, .int .i64 b, .int .i64 c, .int .i64 d] 3 rfl rfl
  have q3 := fun w => p1 w 3 (.int .i64 c) #[.int .i64 a, .string s, .int .i64 b, .int .i64 c, .int .i64 d] 3 rfl rfl
  have q4 := fun w => p1 w 4 (.int .i64 d) #[.int .i64 a, .string s, .int .i64 b, .int .i64 c, .int .i64 d] 3 rfl rfl
  have e0 := fun w => run_equalIn_string (P := Try.prog) w 9998 9 s s Try.underlying9
  have e1 := fun w z => run_equalIn_int (P := Try.prog) w 9998 3 .i64 .i64 z z Try.underlying3
  simp [Sem.run_bind, q0, q1, q2, q3, q4, e0, e1]⟩
theorem Equal_calls (q1 q2 : Option Addr) (c1 c2 : Nat) (l : List Tok) (w : World) (hlen : l.length ≤ 9000000) (h1 : SlAt w w.heap.size q1 (cat tc l)) (h2 : SlAt w w.heap.size q2 (cat tc l)) :
    Calls Try.prog 20 #[.slice q1 l.length c1, .slice q2 l.length c2] w fun e w' => e = .returned (.bool true) ∧ Ext w w' := by
  refine enter Try.func20 rfl Try.ntmps20 rfl (Cls.start w) ?_
  (simp only [argEnv, Nat.zero_add, Nat.reduceAdd])
  apply W.seq
  apply W.reg
  apply oas; rfl; rfl
  apply OL.nil
  with_reducible apply At.next
  apply W.seq
  apply W.seq
  apply W.reg
  apply omv; rfl; rfl
  apply OL.op; exact Guard.none; rfl; rfl; apply Pev.len_slice; rfl; exact yes; rfl
  apply omv; rfl; rfl
  apply OL.op; exact Guard.none; rfl; rfl; apply Pev.len_slice; rfl; exact yes; rfl
  apply obn; rfl; rfl; rfl; apply Bin.neq
  apply OL.nil
  with_reducible apply At.next
  refine W.cond rfl (fun hc => by simp at hc) (fun _ => ?_)
  apply W.skip
  with_reducible apply At.next
  apply W.seq
  apply W.seq
  apply W.reg
  apply omv; rfl; rfl
  apply OL.op; exact Guard.none; rfl; rfl; apply Pev.len_slice; rfl; exact yes; rfl
  apply omv; rfl; rfl
  apply OL.nil
  with_reducible apply At.next
  apply W.block
  refine W.loop (G := Nat) (fun i => i ≤ l.length) (fun i => l.length - i)
    (fun i => [(13, true, .int .i64 (i : Int)), (12, true, .int .i64 (l.length : Int)), (0, true, .slice q1 l.length c1), (1, true, .slice q2 l.length c2)])
    (fun i => Cls [] [w]) 0 (by omega) (by (repeat (first | exact Sub.nil | apply Sub.cons rfl | (refine Sub.cons_eq rfl (congrArg (Value.int .i64) (by first | omega | (simp only; omega))) ?_)))) (fun w' hw' => hw') ?_
  intro i hi
  apply W.seq
  apply W.reg
  apply obn; rfl; rfl; rfl; apply Bin.lss
  apply OL.nil
  with_reducible apply At.next
  apply W.seq
  (refine W.cond rfl (fun hlt => ?_) (fun hlt => ?_)) <;> (try (simp only [Bool.and_eq_true, Bool.or_eq_true, Bool.not_eq_true', Bool.and_eq_false_iff, Bool.or_eq_false_iff, Bool.not_eq_false', decide_eq_true_eq, decide_eq_false_iff_not, Int.not_lt, Int.not_le] at hlt)) <;> (try (exfalso; first | omega | exact hlt trivial | contradiction))
  · obtain ⟨a1, x, rfl, hab1, hx, hc1⟩ := h1.elem tlen (by decide) (show i < l.length by omega)
    obtain ⟨a2, y, rfl, hab2, hy, hc2⟩ := h2.elem tlen (by decide) (show i < l.length by omega)
    rw [hx] at hy
    obtain rfl := Option.some.inj hy
    apply W.skip
    with_reducible apply At.next
    apply W.seq
    apply W.block
    apply W.seq
    apply W.reg
    apply omv; rfl; rfl
    apply oas; rfl; rfl
    apply OL.nil
    with_reducible apply At.next
    apply W.seq
    apply W.regd0; decide +kernel; kernel_rfl; decide +kernel; exact fun w hw => hw.drew
    apply qmv; rfl; rfl
    apply qmv; rfl; rfl
    apply QL.op; exact Guard.none; rfl; rfl; apply Pev.idx; rfl; exact yes; rfl; exact yes; rfl; rfl; intro hcond; omega
    apply QL.op; exact Guard.none; rfl; rfl; apply Pev.load_keptA; rfl; exact yes; exact .head _; rfl; intro hcond; assumption; rfl; intro hcond; (rw [add_block]; assumption); intro hcond; exact NotOwned.nil
    apply qmv; rfl; rfl
    apply qmv; rfl; rfl
    apply QL.op; exact Guard.none; rfl; rfl; apply Pev.idx; rfl; exact yes; rfl; exact yes; rfl; rfl; intro hcond; omega
    apply QL.op; exact Guard.none; rfl; rfl; apply Pev.load_keptA; rfl; exact yes; exact .head _; rfl; intro hcond; assumption; rfl; intro hcond; (rw [add_block]; assumption); intro hcond; exact NotOwned.nil
    (((first | (with_reducible apply OL.op) | (with_reducible apply QL.op)); ((first | exact Guard.none | exact Guard.yes rfl rfl | exact Guard.no rfl rfl | exact Guard.cyes rfl rfl | exact Guard.cno rfl rfl)); rfl; rfl); (refine Pev.bin (r := .bool false) rfl (by (first | exact fun _ => rfl | exact fun h => h | (intro h; simp_all; done))) rfl (by (first | exact fun _ => rfl | exact fun h => h | (intro h; simp_all; done))) (fun _ => neq_same x)))
    apply QL.nil
    with_reducible apply At.next
    refine W.cond rfl (fun hc => by cases hc) (fun _ => ?_)
    apply W.skip
    with_reducible apply At.in_normal
    with_reducible apply At.next
    apply W.reg
    apply obn; rfl; rfl; rfl; apply Bin.add_in; omega
    apply omv; rfl; rfl
    apply OL.nil
    exact At.again (i + 1) (by omega) (by omega) (by (repeat (first | exact Sub.nil | apply Sub.cons rfl | (refine Sub.cons_eq rfl (congrArg (Value.int .i64) (by first | omega | (simp only; omega))) ?_)))) (fun w' hw' => hw')
  · apply W.exit
    with_reducible apply At.then_exit
    with_reducible apply At.then_exit
    with_reducible apply At.in_exit
    with_reducible apply At.next
    apply W.seq
    apply W.reg
    apply oas; rfl; rfl
    apply OL.nil
    with_reducible apply At.next
    apply W.ret
    ((with_reducible apply At.fin1); rfl; rfl; intro w' hw')
    exact ⟨rfl, by (exact hw'.toExt (by (repeat (first | exact List.Mem.head _ | apply List.Mem.tail))) (fun k hk => by (focus ((try simp only [add_block]); (repeat (first | exact NotOwned.nil | exact hno _ (by omega) | refine NotOwned.nothing ?_ | refine NotOwned.nds (hlow _ (by omega)) ?_ | refine NotOwned.mapS (by omega) ?_ | apply NotOwned.bif | refine NotOwned.blk (by omega) ?_ | refine NotOwned.row (by omega) ?_ | refine NotOwned.grid (by assumption) (by omega) ?_)); done))))⟩

def t1 : Tok := ⟨9, ⟨#[]⟩, 0, 1, 1⟩
theorem mark_one : markR [t1] = ([t1], 0) := by
  have h : chk [t1] = 0 := by
    unfold chk
    rw [if_neg (by decide), if_neg (by unfold endK t1; simp)]
    unfold chkL tokE before t1
    simp [chkL]
  unfold markR
  rw [if_pos h]
  unfold lay
  rw [if_pos (show t1.kind = 9 from rfl)]
  rfl
theorem lay_len : ∀ (l : List Tok) (prev : Option Tok) (x : St), (lay prev l x).length ≤ szS x + 9 * (l.length + 1)
  | [], prev, x => by unfold lay szS; omega
  | t :: r, prev, x => by
    unfold lay
    split
    · have h1 := openS_sz (prev := prev) (t := t) (x := x)
      have h2 := List.length_filter_le posX (openS prev t x).1
      unfold szS at h1 ⊢
      simp only [List.length_append, List.length_replicate, List.length_cons, List.length_nil]
      omega
    · have h1 := lay_len r (some t) (stepS prev t x)
      have h2 := stepS_sz (prev := prev) (t := t) (x := x)
      simp only [List.length_cons]
      omega

theorem law_calls (q : Option Addr) (cap : Nat) (l : List Tok) (w : World) (hlen : l.length ≤ 9223372036854775807) (h : SlAt w w.heap.size q (cat tc l)) :
    Calls Try.prog 4 #[.slice q l.length cap] w fun e w' => e = .returned (.bool true) ∧ Ext w w' := by
  refine enter Try.func4 rfl Try.ntmps4 rfl (Cls.start w) ?_
  (simp only [argEnv, Nat.zero_add, Nat.reduceAdd])
  apply W.seq
  apply W.reg
  apply oas; rfl; rfl
  apply OL.nil
  with_reducible apply At.next
  apply W.seq
  apply W.seq
  apply W.reg
  apply OL.op; exact Guard.none; rfl; rfl; apply Pev.build; rfl; exact CellsL.agg; rfl; apply Fill.cons rfl; exact CellsL.one rfl; rfl; rfl; apply Put.here; apply Over.cons; apply Over.nil; apply Fill.cons rfl; exact CellsL.one rfl; rfl; rfl; apply Put.skip; apply Put.skip; apply Put.skip; apply Put.here; apply Over.cons; apply Over.nil; apply Fill.cons rfl; exact CellsL.one rfl; rfl; rfl; apply Put.skip; apply Put.skip; apply Put.skip; apply Put.skip; apply Put.here; apply Over.cons; apply Over.nil; apply Fill.nil; rfl
  apply OL.buildSlice; rfl; rfl; rfl; apply Elems.cons rfl; exact CellsL.agg; rfl; apply Elems.nil; apply App.cons; apply App.cons; apply App.cons; apply App.cons; apply App.cons; apply App.nil; rfl; rfl; (intro bk hbk; simp only [AllLe, and_true] at hbk)
  have hm1 := fun w2 (hw2 : Cls [blk bk 51 (tc t1)] [w] w2) => Mark_calls (some ⟨bk, 0, none⟩) 1 [t1] w2 (by decide) (SlAt.of_blk (o := 0) (hw2.item (.head _)) (fun j v hj => by rw [Nat.zero_add]; rw [cat_one] at hj; exact hj))
  rw [mark_one] at hm1
  refine OL.callE (α := Option Addr × Nat) (fun x => .tuple #[.slice x.1 1 x.2, .int .i64 0]) (fun _ => True) (fun _ => Cls [blk bk 51 (tc t1)] [w]) rfl rfl (by (repeat (first | exact Args.nil | (apply Args.cons rfl; ((first | exact fun _ => rfl | exact fun h => h | (intro h; simp_all; done))))))) (fun w2 hw2 => (hm1 w2 hw2).mono fun e w3 ⟨x, h1, _, h2⟩ => ⟨x, h1, trivial, hw2.ext h2⟩) ?_
  rintro ⟨mq, mc⟩ _
  simp only
  apply omv; rfl; rfl
  apply oex; rfl; rfl; rfl
  apply oex; rfl; rfl; rfl
  apply oas; rfl; rfl
  apply oas; rfl; rfl
  apply OL.nil
  with_reducible apply At.next
  apply W.seq
  apply W.reg
  apply omv; rfl; rfl
  apply OL.op; exact Guard.none; rfl; rfl; apply Pev.len_slice; rfl; exact yes; rfl
  apply obn; rfl; rfl; rfl; apply Bin.neq
  apply omv; rfl; rfl
  apply OL.op; exact Guard.no rfl rfl; rfl; rfl; apply Pev.move; rfl; exact yes
  apply OL.op; exact Guard.no rfl rfl; rfl; rfl; apply Pev.bin; rfl; exact yes; rfl; exact yes; intro hcond; apply Bin.neq
  apply OL.op; exact Guard.none; rfl; rfl; apply Pev.pick_or; rfl; exact yes; rfl; exact yes
  apply OL.nil
  with_reducible apply At.next
  refine W.cond rfl (fun hb => by simp at hb) (fun _ => ?_)
  apply W.skip
  with_reducible apply At.next
  apply W.seq
  apply W.reg
  apply omv; rfl; rfl
  refine OL.callE (α := Option Addr × Nat) (fun x => .tuple #[.slice x.1 (markR l).1.length x.2, .int .i64 (markR l).2]) (fun _ => True) (fun x w' => Ext w w' ∧ SlAt w' w'.heap.size q (cat tc l) ∧ SlAt w' w'.heap.size x.1 (cat tc (markR l).1)) rfl rfl (by (repeat (first | exact Args.nil | (apply Args.cons rfl; ((first | exact fun _ => rfl | exact fun h => h | (intro h; simp_all; done))))))) (fun w2 hw2 => ?_) ?_
  · have hx := hw2.toExt (s := w) (.head _) (fun k hk => NotOwned.blk (by omega) .nil)
    have hs2 := h.ext hx (Nat.le_refl _)
    exact (Mark_calls q cap l w2 hlen hs2).mono fun e w3 ⟨x, h1, h2, h3⟩ => ⟨x, h1, trivial, hx.trans h3, hs2.ext h3 (Nat.le_refl _), h2⟩
  rintro ⟨q2, c2⟩ _
  simp only
  refine ⟨fun a w1 hs1 hc1 => ?_⟩
  refine OL.run (C := Cls [] [w1]) ?_ a w1 hs1 (Cls.start w1)
  obtain ⟨hx1, hl1, hr1⟩ := hc1
  clear hs1 hm1
  apply omv; rfl; rfl
  apply oex; rfl; rfl; rfl
  apply oex; rfl; rfl; rfl
  apply oas; rfl; rfl
  apply oas; rfl; rfl
  apply OL.nil
  with_reducible apply At.next
  apply W.seq
  apply W.reg
  apply omv; rfl; rfl
  (((first | (with_reducible apply OL.op) | (with_reducible apply QL.op)); ((first | exact Guard.none | exact Guard.yes rfl rfl | exact Guard.no rfl rfl | exact Guard.cyes rfl rfl | exact Guard.cno rfl rfl)); rfl; rfl); (refine Pev.call (v := .int .i64 (chk l)) rfl (by (repeat (first | exact Args.nil | (apply Args.cons rfl; ((first | exact fun _ => rfl | exact fun h => h | (intro h; simp_all; done))))))) (fun _ w2 hw2 => (tokensError_calls q cap l w2 hlen (hl1.keep (hw2.below (s := w1) (by (repeat (first | exact List.Mem.head _ | apply List.Mem.tail))) (Nat.le_refl _) (fun k hk => by (focus ((try simp only [add_block]); (repeat (first | exact NotOwned.nil | exact hno _ (by omega) | refine NotOwned.nothing ?_ | refine NotOwned.nds (hlow _ (by omega)) ?_ | refine NotOwned.mapS (by omega) ?_ | apply NotOwned.bif | refine NotOwned.blk (by omega) ?_ | refine NotOwned.row (by omega) ?_ | refine NotOwned.grid (by assumption) (by omega) ?_)); done)))) (hw2.kp w1 (by (repeat (first | exact List.Mem.head _ | apply List.Mem.tail)))).size)).mono (fun e w3 h => ⟨h.1, hw2.ext h.2⟩))))
  apply oas; rfl; rfl
  apply OL.nil
  with_reducible apply At.next
  apply W.seq
  apply W.seq
  apply W.reg
  apply omv; rfl; rfl
  (((first | (with_reducible apply OL.op) | (with_reducible apply QL.op)); ((first | exact Guard.none | exact Guard.yes rfl rfl | exact Guard.no rfl rfl | exact Guard.cyes rfl rfl | exact Guard.cno rfl rfl)); rfl; rfl); (refine Pev.call (v := .int .i64 (chk l)) rfl (by (repeat (first | exact Args.nil | (apply Args.cons rfl; ((first | exact fun _ => rfl | exact fun h => h | (intro h; simp_all; done))))))) (fun _ w2 hw2 => (Check_calls q cap l w2 hlen (hl1.keep (hw2.below (s := w1) (by (repeat (first | exact List.Mem.head _ | apply List.Mem.tail))) (Nat.le_refl _) (fun k hk => by (focus ((try simp only [add_block]); (repeat (first | exact NotOwned.nil | exact hno _ (by omega) | refine NotOwned.nothing ?_ | refine NotOwned.nds (hlow _ (by omega)) ?_ | refine NotOwned.mapS (by omega) ?_ | apply NotOwned.bif | refine NotOwned.blk (by omega) ?_ | refine NotOwned.row (by omega) ?_ | refine NotOwned.grid (by assumption) (by omega) ?_)); done)))) (hw2.kp w1 (by (repeat (first | exact List.Mem.head _ | apply List.Mem.tail)))).size)).mono (fun e w3 h => ⟨h.1, hw2.ext h.2⟩))))
  apply omv; rfl; rfl
  apply obn; rfl; rfl; rfl; apply Bin.neq
  apply omv; rfl; rfl
  apply OL.op; exact Guard.no rfl rfl; rfl; rfl; apply Pev.move; rfl; exact yes
  apply OL.op; exact Guard.no rfl rfl; rfl; rfl; apply Pev.move; rfl; exact yes
  apply OL.op; exact Guard.no rfl rfl; rfl; rfl; apply Pev.bin; rfl; exact fun h => h; rfl; exact fun h => h; intro hcond; apply Bin.neq
  apply OL.op; exact Guard.none; rfl; rfl; apply Pev.pick_or; rfl; exact yes; rfl; exact fun h => h
  apply OL.nil
  with_reducible apply At.next
  have hme : (markR l).2 = chk l := by
    unfold markR
    split
    · rename_i h0; rw [h0]
    · rfl
  rw [hme]
  refine W.cond rfl (fun hb => by simp at hb) (fun _ => ?_)
  apply W.skip
  with_reducible apply At.next
  apply W.seq
  apply W.seq
  apply W.reg
  apply omv; rfl; rfl
  apply obn; rfl; rfl; rfl; apply Bin.neq
  apply OL.nil
  with_reducible apply At.next
  (refine W.cond rfl (fun hok => ?_) (fun hok => ?_)) <;> (try (simp only [Bool.and_eq_true, Bool.or_eq_true, Bool.not_eq_true', Bool.and_eq_false_iff, Bool.or_eq_false_iff, Bool.not_eq_false', decide_eq_true_eq, decide_eq_false_iff_not, Int.not_lt, Int.not_le] at hok)) <;> (try (exfalso; first | omega | exact hok trivial | contradiction))
  · have hR : markR l = ([], chk l) := by rw [markR, if_neg hok]
    rw [hR]
    apply W.seq
    apply W.reg
    apply omv; rfl; rfl
    apply OL.op; exact Guard.none; rfl; rfl; apply Pev.len_slice; rfl; exact yes; rfl
    apply obn; rfl; rfl; rfl; apply Bin.eql
    apply oas; rfl; rfl
    apply OL.nil
    with_reducible apply At.next
    apply W.ret
    with_reducible apply At.then_ret
    ((with_reducible apply At.fin1); rfl; rfl; intro w' hw')
    exact ⟨by simp, hx1.trans (by (exact hw'.toExt (by (repeat (first | exact List.Mem.head _ | apply List.Mem.tail))) (fun k hk => by (focus ((try simp only [add_block]); (repeat (first | exact NotOwned.nil | exact hno _ (by omega) | refine NotOwned.nothing ?_ | refine NotOwned.nds (hlow _ (by omega)) ?_ | refine NotOwned.mapS (by omega) ?_ | apply NotOwned.bif | refine NotOwned.blk (by omega) ?_ | refine NotOwned.row (by omega) ?_ | refine NotOwned.grid (by assumption) (by omega) ?_)); done)))))⟩
  have hok0 : chk l = 0 := by simpa using hok
  have hR : markR l = (lay none l ([], []), 0) := by rw [markR, if_pos hok0]
  rw [hR] at hr1 ⊢
  simp only at hr1 ⊢
  have hll := lay_len l none ([], [])
  have hl8 := (chk_zero hok0).1
  have hz0 : szS ([], []) = 0 := rfl
  apply W.skip
  with_reducible apply At.next
  apply W.seq
  apply W.reg
  apply omv; rfl; rfl
  apply omv; rfl; rfl
  refine OL.callE (α := Option Addr × Nat) (fun x => .slice x.1 (lay none l ([], [])).length x.2) (fun _ => True) (fun x w' => Ext w1 w' ∧ SlAt w' w'.heap.size q2 (cat tc (lay none l ([], []))) ∧ SlAt w' w'.heap.size x.1 (cat tc (lay none l ([], [])))) rfl rfl (by (repeat (first | exact Args.nil | (apply Args.cons rfl; ((first | exact fun _ => rfl | exact fun h => h | (intro h; simp_all; done))))))) (fun w2 hw2 => ?_) ?_
  · have hx := hw2.toExt (s := w1) (.head _) (fun k hk => .nil)
    exact (Layout_calls q cap l w2 hok0 (hl1.ext hx (Nat.le_refl _))).mono fun e w3 ⟨x, h1, h2, h3⟩ => ⟨x, h1, trivial, hx.trans h3, (hr1.ext hx (Nat.le_refl _)).ext h3 (Nat.le_refl _), h2⟩
  rintro ⟨q3, c3⟩ _
  simp only
  refine ⟨fun a w3 hs3 hc3 => ?_⟩
  refine OL.run (C := Cls [] [w3]) ?_ a w3 hs3 (Cls.start w3)
  obtain ⟨hx3, hm3, hr3⟩ := hc3
  clear hs3
  (((first | (with_reducible apply OL.op) | (with_reducible apply QL.op)); ((first | exact Guard.none | exact Guard.yes rfl rfl | exact Guard.no rfl rfl | exact Guard.cyes rfl rfl | exact Guard.cno rfl rfl)); rfl; rfl); (refine Pev.call (v := .bool true) rfl (by (repeat (first | exact Args.nil | (apply Args.cons rfl; ((first | exact fun _ => rfl | exact fun h => h | (intro h; simp_all; done))))))) (fun _ w2 hw2 => (Equal_calls q2 q3 c2 c3 _ w2 (by omega) (hm3.keep (hw2.below (s := w3) (by (repeat (first | exact List.Mem.head _ | apply List.Mem.tail))) (Nat.le_refl _) (fun k hk => by (focus ((try simp only [add_block]); (repeat (first | exact NotOwned.nil | exact hno _ (by omega) | refine NotOwned.nothing ?_ | refine NotOwned.nds (hlow _ (by omega)) ?_ | refine NotOwned.mapS (by omega) ?_ | apply NotOwned.bif | refine NotOwned.blk (by omega) ?_ | refine NotOwned.row (by omega) ?_ | refine NotOwned.grid (by assumption) (by omega) ?_)); done)))) (hw2.kp w3 (by (repeat (first | exact List.Mem.head _ | apply List.Mem.tail)))).size) (hr3.keep (hw2.below (s := w3) (by (repeat (first | exact List.Mem.head _ | apply List.Mem.tail))) (Nat.le_refl _) (fun k hk => by (focus ((try simp only [add_block]); (repeat (first | exact NotOwned.nil | exact hno _ (by omega) | refine NotOwned.nothing ?_ | refine NotOwned.nds (hlow _ (by omega)) ?_ | refine NotOwned.mapS (by omega) ?_ | apply NotOwned.bif | refine NotOwned.blk (by omega) ?_ | refine NotOwned.row (by omega) ?_ | refine NotOwned.grid (by assumption) (by omega) ?_)); done)))) (hw2.kp w3 (by (repeat (first | exact List.Mem.head _ | apply List.Mem.tail)))).size)).mono (fun e w4 h => ⟨h.1, hw2.ext h.2⟩))))
  apply oas; rfl; rfl
  apply OL.nil
  with_reducible apply At.next
  apply W.ret
  ((with_reducible apply At.fin1); rfl; rfl; intro w' hw')
  exact ⟨rfl, hx1.trans (hx3.trans (by (exact hw'.toExt (by (repeat (first | exact List.Mem.head _ | apply List.Mem.tail))) (fun k hk => by (focus ((try simp only [add_block]); (repeat (first | exact NotOwned.nil | exact hno _ (by omega) | refine NotOwned.nothing ?_ | refine NotOwned.nds (hlow _ (by omega)) ?_ | refine NotOwned.mapS (by omega) ?_ | apply NotOwned.bif | refine NotOwned.blk (by omega) ?_ | refine NotOwned.row (by omega) ?_ | refine NotOwned.grid (by assumption) (by omega) ?_)); done))))))⟩
end Go.Proofs.Ytlcclcakdfmgkaa.ly
