/- The walk of slices.Equal at equal lists of nodes, and of the law FixityTree, given that climbing and splitting agree. Conditions: none. -/
import Derived.Test.YtmmjkpbpmhaooaaFxE
import Derived.Test.YtmmjkpbpmhaooaaFxQ
import Derived.Laws.StructEq
namespace Go.Proofs.Ytmmjkpbpmhaooaa.fx
open Go.RowKit Go.Eng Go.Fx
set_option linter.unusedVariables false
set_option maxRecDepth 100000

theorem neq_same (s : ByteArray) (a b c : Int) : Bin Try.prog .neq 45 (.agg #[.string s, .int .i64 a, .int .i64 b, .int .i64 c]) (.agg #[.string s, .int .i64 a, .int .i64 b, .int .i64 c]) (.bool false) := ⟨fun x y w => by
  have h1 := run_eqGuard_agg (P := Try.prog) w .neq 45 x y #[.string s, .int .i64 a, .int .i64 b, .int .i64 c] #[.string s, .int .i64 a, .int .i64 b, .int .i64 c] (by kernel_rfl)
  rw [Sem.run_bind, h1, Result.andThen_ok, run_neq_struct, run_equalIn_agg w 9999 45 _ _ (by kernel_rfl) (by kernel_rfl)]
  have hf : Try.prog.fieldsOf 45 = (match Try.prog.underlying 45 with | some (.struct fs) => fs | _ => #[]) := rfl
  rw [hf, Try.underlying45]
  simp only [Op.eqFields]
  have p1 : ∀ (w : World) (i : Nat) (v : Value) (cs : Array Value) (t : TypeId), cs[i]? = some v → scalB Try.prog t = true → (part t cs i).run Try.prog w = .ok v w := fun w i v cs t hv ht => by
    simp [part, Sem.run_bind, run_isAgg_scal ht, hv]
  have q0 := fun w => p1 w 0 (.string s) #[.string s, .int .i64 a, .int .i64 b, .int .i64 c] 9 rfl rfl
  have q1 := fun w => p1 w 1 (.int .i64 a) #[.string s, .int .i64 a, .int .i64 b, .int .i64 c] 3 rfl rfl
  have q2 := fun w => p1 w 2 (.int .i64 b) #[.string s, .int .i64 a, .int .i64 b, .int .i64 c] 3 rfl rfl
  have q3 := fun w => p1 w 3 (.int .i64 c) #[.string s, .int .i64 a, .int .i64 b, .int .i64 c] 3 rfl rfl
  have e0 := fun w => run_equalIn_string (P := Try.prog) w 9998 9 s s Try.underlying9
  have e1 := fun w z => run_equalIn_int (P := Try.prog) w 9998 3 .i64 .i64 z z Try.underlying3
  simp [Sem.run_bind, q0, q1, q2, q3, e0, e1]⟩
theorem Equal_calls (q1 q2 : Option Addr) (c1 c2 : Nat) (l : List Nod) (w : World) (hlen : l.length ≤ 100000) (h1 : SlAt w w.heap.size q1 (cat nc l)) (h2 : SlAt w w.heap.size q2 (cat nc l)) :
    Calls Try.prog 17 #[.slice q1 l.length c1, .slice q2 l.length c2] w fun e w' => e = .returned (.bool true) ∧ Ext w w' := by
  refine enter Try.func17 rfl Try.ntmps17 rfl (Cls.start w) ?_
  (simp only [argEnv, Nat.zero_add, Nat.reduceAdd])
  apply W.seq
  apply W.reg
  apply oas; rfl; rfl
  apply OL.nil
  with_reducible apply At.next
  apply W.seq
  apply W.seq
  apply W.reg
  apply omv; rfl; rfl
  apply OL.op; exact Guard.none; rfl; rfl; apply Pev.len_slice; rfl; exact yes; rfl
  apply omv; rfl; rfl
  apply OL.op; exact Guard.none; rfl; rfl; apply Pev.len_slice; rfl; exact yes; rfl
  apply obn; rfl; rfl; rfl; apply Bin.neq
  apply OL.nil
  with_reducible apply At.next
  refine W.cond rfl (fun hc => by simp at hc) (fun _ => ?_)
  apply W.skip
  with_reducible apply At.next
  apply W.seq
  apply W.seq
  apply W.reg
  apply omv; rfl; rfl
  apply OL.op; exact Guard.none; rfl; rfl; apply Pev.len_slice; rfl; exact yes; rfl
  apply omv; rfl; rfl
  apply OL.nil
  with_reducible apply At.next
  apply W.block
  refine W.loop (G := Nat) (fun i => i ≤ l.length) (fun i => l.length - i)
    (fun i => [(13, true, .int .i64 (i : Int)), (12, true, .int .i64 (l.length : Int)), (0, true, .slice q1 l.length c1), (1, true, .slice q2 l.length c2)])
    (fun i => Cls [] [w]) 0 (by omega) (by (repeat (first | exact Sub.nil | apply Sub.cons rfl))) (fun w' hw' => hw') ?_
  intro i hi
  apply W.seq
  apply W.reg
  apply obn; rfl; rfl; rfl; apply Bin.lss
  apply OL.nil
  with_reducible apply At.next
  apply W.seq
  (refine W.cond rfl (fun hlt => ?_) (fun hlt => ?_)) <;> (try (simp only [Bool.and_eq_true, Bool.or_eq_true, Bool.not_eq_true', Bool.and_eq_false_iff, Bool.or_eq_false_iff, Bool.not_eq_false', decide_eq_true_eq, decide_eq_false_iff_not, Int.not_lt, Int.not_le] at hlt)) <;> (try (exfalso; first | omega | exact hlt trivial | contradiction))
  · obtain ⟨a1, x, rfl, hab1, hx, hc1⟩ := h1.elem nlen (by decide) (show i < l.length by omega)
    obtain ⟨a2, y, rfl, hab2, hy, hc2⟩ := h2.elem nlen (by decide) (show i < l.length by omega)
    rw [hx] at hy
    obtain rfl := Option.some.inj hy
    unfold nc at hc1 hc2
    apply W.skip
    with_reducible apply At.next
    apply W.seq
    apply W.block
    apply W.seq
    apply W.reg
    apply omv; rfl; rfl
    apply oas; rfl; rfl
    apply OL.nil
    with_reducible apply At.next
    apply W.seq
    apply W.regd0; decide +kernel; kernel_rfl; decide +kernel; exact fun w hw => hw.drew
    apply qmv; rfl; rfl
    apply qmv; rfl; rfl
    apply QL.op; exact Guard.none; rfl; rfl; apply Pev.idx; rfl; exact yes; rfl; exact yes; rfl; rfl; intro hcond; omega
    apply QL.op; exact Guard.none; rfl; rfl; apply Pev.load_keptA; rfl; exact yes; exact .head _; rfl; intro hcond; assumption; rfl; intro hcond; (rw [add_block]; assumption); intro hcond; exact NotOwned.nil
    apply qmv; rfl; rfl
    apply qmv; rfl; rfl
    apply QL.op; exact Guard.none; rfl; rfl; apply Pev.idx; rfl; exact yes; rfl; exact yes; rfl; rfl; intro hcond; omega
    apply QL.op; exact Guard.none; rfl; rfl; apply Pev.load_keptA; rfl; exact yes; exact .head _; rfl; intro hcond; assumption; rfl; intro hcond; (rw [add_block]; assumption); intro hcond; exact NotOwned.nil
    (((first | (with_reducible apply OL.op) | (with_reducible apply QL.op)); ((first | exact Guard.none | exact Guard.yes rfl rfl | exact Guard.no rfl rfl | exact Guard.cyes rfl rfl | exact Guard.cno rfl rfl)); rfl; rfl); (refine Pev.bin (r := .bool false) rfl (by (first | exact fun _ => rfl | exact fun h => h | (intro h; simp_all; done))) rfl (by (first | exact fun _ => rfl | exact fun h => h | (intro h; simp_all; done))) (fun _ => neq_same _ _ _ _)))
    apply QL.nil
    with_reducible apply At.next
    refine W.cond rfl (fun hc => by cases hc) (fun _ => ?_)
    apply W.skip
    with_reducible apply At.in_normal
    with_reducible apply At.next
    apply W.reg
    apply obn; rfl; rfl; rfl; apply Bin.add_in; omega
    apply omv; rfl; rfl
    apply OL.nil
    exact At.again (i + 1) (by omega) (by omega) (by (repeat (first | exact Sub.nil | apply Sub.cons rfl))) (fun w' hw' => hw')
  · apply W.exit
    with_reducible apply At.then_exit
    with_reducible apply At.then_exit
    with_reducible apply At.in_exit
    with_reducible apply At.next
    apply W.seq
    apply W.reg
    apply oas; rfl; rfl
    apply OL.nil
    with_reducible apply At.next
    apply W.ret
    ((with_reducible apply At.fin1); rfl; rfl; intro w' hw')
    exact ⟨rfl, by (exact hw'.toExt (by (repeat (first | exact List.Mem.head _ | apply List.Mem.tail))) (fun k hk => by (focus ((try simp only [add_block]); (repeat (first | exact NotOwned.nil | exact hno _ (by omega) | refine NotOwned.nothing ?_ | apply NotOwned.bif | refine NotOwned.blk (by omega) ?_ | refine NotOwned.row (by omega) ?_ | refine NotOwned.grid (by assumption) (by omega) ?_)); done))))⟩

theorem bld_one : bldR [] [⟨⟨#[]⟩, 7⟩] = ([⟨⟨#[]⟩, 7, 0, 0⟩], 0) := by kernel_rfl
/-- the fault of a table and a sequence -/
def finE (table : List Sig) (its : List Itm) : Int := if chkF [] table ≠ 0 then chkF [] table else if its.length % 2 = 0 then 3 else if alt 0 its = false then 3 else 0
theorem finE_bld {table : List Sig} {its : List Itm} (h : finE table its ≠ 0) : bldR table its = ([], finE table its) := by
  unfold finE at h ⊢
  unfold bldR
  by_cases h1 : chkF [] table ≠ 0
  · rw [if_pos h1, if_pos h1]
  · rw [if_neg h1, if_neg h1]
    rw [if_neg h1] at h
    by_cases h2 : its.length % 2 = 0
    · rw [if_pos h2, if_pos h2]
    · rw [if_neg h2, if_neg h2]
      rw [if_neg h2] at h
      by_cases h3 : alt 0 its = false
      · rw [if_pos h3, if_pos h3]
      · rw [if_neg h3] at h
        exact absurd rfl h
theorem finE_ok {table : List Sig} {its : List Itm} (h : finE table its = 0) : chkF [] table = 0 ∧ its.length % 2 = 1 ∧ alt 0 its = true := by
  unfold finE at h
  by_cases h1 : chkF [] table ≠ 0
  · rw [if_pos h1] at h
    exact absurd h h1
  · rw [if_neg h1] at h
    by_cases h2 : its.length % 2 = 0
    · rw [if_pos h2] at h; cases h
    · rw [if_neg h2] at h
      by_cases h3 : alt 0 its = false
      · rw [if_pos h3] at h; cases h
      · exact ⟨by simpa using h1, by omega, by simpa using h3⟩
theorem alt_ops (table : List Sig) : ∀ (m i : Nat) (l : List Itm), l.length ≤ m → i % 2 = 1 → alt i l = true → ∀ p ∈ pairs table l, p.1.op ≠ ⟨#[]⟩
  | _, i, [], _, _, _, p, hp => by cases hp
  | _, i, [o], _, _, _, p, hp => by cases hp
  | 0, i, o :: a :: r, hm, _, _, p, hp => by simp at hm
  | m + 1, i, o :: a :: r, hm, hi, h, p, hp => by
    rw [alt, alt, Bool.and_eq_true, Bool.and_eq_true] at h
    rw [pairs] at hp
    rcases List.mem_cons.1 hp with rfl | hp
    · rw [find_op]
      have h1 := h.1
      have h2 : decide (i % 2 = 0) = false := by simp; omega
      rw [h2] at h1
      simpa using h1
    · exact alt_ops table m (i + 1 + 1) r (by simp only [List.length_cons] at hm; omega) (by omega) h.2.2 p hp
theorem bld_op {table : List Sig} {its : List Itm} (h : finE table its = 0) : (opR table its).2 = false ∧ (opR table its).1 = [] ∧ bldR table its = ([], 5) ∨ (opR table its).2 = true ∧ bldR table its = ((opR table its).1, 0) := by
  obtain ⟨h1, h2, h3⟩ := finE_ok h
  have hb : bldR table its = match climbT table its with
      | none => ([], 5)
      | some t => (flat 0 t, 0) := by 
    rw [bldR, if_neg (by simpa using h1), if_neg (by omega), if_neg (by rw [h3]; simp)]
    cases climbT table its <;> rfl
  have hpl : (pairs table (its.drop 1)).length = (its.length - 1) / 2 := pairs_len table _ _ (by rw [List.length_drop]; omega)
  have hag := agree (f := its.length) (g := its.length) (n := (its.getD 0 ⟨⟨#[]⟩, 0⟩).n) (ps := pairs table (its.drop 1)) (by omega) (by omega) (fun p hp => by
    obtain ⟨k, hk⟩ := List.mem_iff_getElem?.1 hp
    have hkl := (List.getElem?_eq_some_iff.1 hk).1
    have h5 : (its.drop 1)[2 * k]? = some ((its.drop 1)[2 * k]'(by rw [List.length_drop]; omega)) := List.getElem?_eq_getElem _
    have h6 : (its.drop 1)[2 * k + 1]? = some ((its.drop 1)[2 * k + 1]'(by rw [List.length_drop]; omega)) := List.getElem?_eq_getElem _
    have h7 := pairs_get table h5 h6
    rw [hk] at h7
    rw [Option.some.inj h7]
    exact find_ok h1 _)
  rw [climbT, hag] at hb
  unfold opR
  rw [hb]
  cases refP its.length (its.getD 0 ⟨⟨#[]⟩, 0⟩).n (pairs table (its.drop 1)) with
  | none => exact .inl ⟨rfl, rfl, rfl⟩
  | some t => exact .inr ⟨rfl, rfl⟩
theorem op_len {table : List Sig} {its : List Itm} (h : its.length ≤ 60) : (opR table its).1.length ≤ 200 := by
  unfold opR
  cases hr : refP its.length (its.getD 0 ⟨⟨#[]⟩, 0⟩).n (pairs table (its.drop 1)) with
  | none => simp
  | some t =>
    have h1 := refP_size _ _ _ _ hr
    have h2 : ∀ (m : Nat) (l : List Itm), l.length ≤ m → (pairs table l).length ≤ l.length := by
      intro m
      induction m with
      | zero =>
        intro l hl
        have : l = [] := List.eq_nil_of_length_eq_zero (by omega)
        subst this; simp [pairs]
      | succ m ih =>
        intro l hl
        match l, hl with
        | [], _ => simp [pairs]
        | [o], _ => simp [pairs]
        | o :: a :: r, hl =>
          have := ih r (by simp only [List.length_cons] at hl; omega)
          simp only [pairs, List.length_cons]
          omega
    have h3 := h2 _ (its.drop 1) (Nat.le_refl _)
    rw [List.length_drop] at h3
    simp only [flat_length]
    omega

theorem law_calls (table : List Sig) (its : List Itm) (tq iq : Option Addr) (tc icp : Nat) (w : World) (htl0 : table.length ≤ 9223372036854775807) (hil0 : its.length ≤ 9223372036854775807) (htc : table.length ≤ tc) (hic : its.length ≤ icp) (ht : SlAt w w.heap.size tq (cat sc table)) (hi : SlAt w w.heap.size iq (cat ic its)) :
    Calls Try.prog 5 #[.slice tq table.length tc, .slice iq its.length icp] w fun e w' => e = .returned (.bool true) ∧ Ext w w' := by
  refine enter Try.func5 rfl Try.ntmps5 rfl (Cls.start w) ?_
  (simp only [argEnv, Nat.zero_add, Nat.reduceAdd])
  apply W.seq
  apply W.reg
  apply oas; rfl; rfl
  apply OL.nil
  with_reducible apply At.next
  apply W.seq
  apply W.seq
  apply W.reg
  apply OL.op; exact Guard.none; rfl; rfl; apply Pev.build; rfl; exact CellsL.agg; rfl; apply Fill.cons rfl; exact CellsL.one rfl; rfl; rfl; apply Put.skip; apply Put.here; apply Over.cons; apply Over.nil; apply Fill.nil; rfl
  apply OL.buildSlice; rfl; rfl; rfl; apply Elems.cons rfl; exact CellsL.agg; rfl; apply Elems.nil; apply App.cons; apply App.cons; apply App.nil; rfl; rfl; (intro bk hbk; simp only [AllLe, and_true] at hbk)
  refine OL.callE (α := Option Addr × Nat) (fun x => .tuple #[.slice x.1 1 x.2, .int .i64 0]) (fun x => True) (fun x => Cls [] [w]) rfl rfl (by (repeat (first | exact Args.nil | (apply Args.cons rfl; ((first | exact fun _ => rfl | exact fun h => h | (intro h; simp_all; done))))))) (fun w2 hw2 => ?_) ?_
  · have i1 := hw2.item (i := blk bk 39 [.string ⟨#[]⟩, .int .i64 7]) (by (repeat (first | exact List.Mem.head _ | apply List.Mem.tail)))
    refine (Build_calls [] [⟨⟨#[]⟩, 7⟩] none (some ⟨bk, 0, none⟩) 0 1 w2 (by decide) (by decide) (by decide) SlAt.nil (SlAt.of_blk (o := 0) i1 (fun j v hj => by rw [Nat.zero_add]; exact hj))).mono (fun e w3 ⟨x, he, hs, hx⟩ => ?_)
    rw [bld_one] at he
    exact ⟨x, he, trivial, (hw2.ext hx).thin (by (repeat (first | exact Thin.nil | exact Thin.same | apply Thin.keep | (refine Thin.blk (by assumption) ?_) | (refine Thin.blk (by simp only [AllLe, and_true]; omega) ?_))))⟩
  rintro ⟨qo, co⟩ -
  simp only
  apply omv; rfl; rfl
  apply oex; rfl; rfl; rfl
  apply oex; rfl; rfl; rfl
  apply oas; rfl; rfl
  apply oas; rfl; rfl
  apply OL.nil
  with_reducible apply At.next
  apply W.seq
  apply W.reg
  apply omv; rfl; rfl
  apply OL.op; exact Guard.none; rfl; rfl; apply Pev.len_slice; rfl; exact yes; rfl
  apply obn; rfl; rfl; rfl; apply Bin.neq
  apply omv; rfl; rfl
  apply OL.op; exact Guard.no rfl rfl; rfl; rfl; apply Pev.move; rfl; exact yes
  apply OL.op; exact Guard.no rfl rfl; rfl; rfl; apply Pev.bin; rfl; exact yes; rfl; exact yes; intro hcond; apply Bin.neq
  apply OL.op; exact Guard.none; rfl; rfl; apply Pev.pick_or; rfl; exact yes; rfl; exact yes
  apply OL.nil
  with_reducible apply At.next
  refine W.cond rfl (fun hc => by simp at hc) (fun _ => ?_)
  apply W.skip
  with_reducible apply At.next
  apply W.seq
  apply W.seq
  apply W.reg
  apply omv; rfl; rfl
  apply OL.op; exact Guard.none; rfl; rfl; apply Pev.len_slice; rfl; exact yes; rfl
  apply obn; rfl; rfl; rfl; apply Bin.gtr
  apply omv; rfl; rfl
  apply OL.op; exact Guard.no rfl rfl; rfl; rfl; apply Pev.move; rfl; exact yes
  apply OL.op; exact Guard.no rfl rfl; rfl; rfl; apply Pev.len_slice; rfl; exact fun h => h; rfl
  apply OL.op; exact Guard.no rfl rfl; rfl; rfl; apply Pev.bin; rfl; exact fun h => h; rfl; exact yes; intro hcond; apply Bin.gtr
  apply OL.op; exact Guard.none; rfl; rfl; apply Pev.pick_or; rfl; exact yes; rfl; exact fun h => h
  apply OL.nil
  with_reducible apply At.next
  refine W.cond rfl (fun hc => ?_) (fun hc => ?_)
  · apply W.seq
    apply W.reg
    apply oas; rfl; rfl
    apply OL.nil
    with_reducible apply At.next
    apply W.ret
    with_reducible apply At.then_ret
    ((with_reducible apply At.fin1); rfl; rfl; intro w' hw')
    exact ⟨rfl, by (exact hw'.toExt (by (repeat (first | exact List.Mem.head _ | apply List.Mem.tail))) (fun k hk => by (focus ((try simp only [add_block]); (repeat (first | exact NotOwned.nil | exact hno _ (by omega) | refine NotOwned.nothing ?_ | apply NotOwned.bif | refine NotOwned.blk (by omega) ?_ | refine NotOwned.row (by omega) ?_ | refine NotOwned.grid (by assumption) (by omega) ?_)); done))))⟩
  simp only [Bool.or_eq_false_iff, decide_eq_false_iff_not, Int.not_lt] at hc
  have htl : table.length ≤ 40 := by omega
  have hil : its.length ≤ 60 := by omega
  clear hc
  apply W.skip
  with_reducible apply At.next
  apply W.seq
  apply W.reg
  apply omv; rfl; rfl
  apply omv; rfl; rfl
  refine OL.callE (α := (Option Addr × Nat) × World) (fun x => .tuple #[.slice x.1.1 (bldR table its).1.length x.1.2, .int .i64 (bldR table its).2]) (fun x => SlAt x.2 x.2.heap.size x.1.1 (cat nc (bldR table its).1) ∧ Ext w x.2) (fun x => Cls [] [x.2, w]) rfl rfl (by (repeat (first | exact Args.nil | (apply Args.cons rfl; ((first | exact fun _ => rfl | exact fun h => h | (intro h; simp_all; done))))))) (fun w2 hw2 => ?_) ?_
  · have h1 := hw2.below (s := w) (by (repeat (first | exact List.Mem.head _ | apply List.Mem.tail))) (Nat.le_refl _) (fun k hk => by (focus ((try simp only [add_block]); (repeat (first | exact NotOwned.nil | exact hno _ (by omega) | refine NotOwned.nothing ?_ | apply NotOwned.bif | refine NotOwned.blk (by omega) ?_ | refine NotOwned.row (by omega) ?_ | refine NotOwned.grid (by assumption) (by omega) ?_)); done)))
    have h2 := (hw2.kp w (by (repeat (first | exact List.Mem.head _ | apply List.Mem.tail)))).size
    refine (Build_calls table its tq iq tc icp w2 htl hil htc (ht.keep h1 h2) (hi.keep h1 h2)).mono (fun e w3 ⟨x, he, hs, hx⟩ => ?_)
    exact ⟨(x, w3), he, ⟨hs, (hw2.toExt (s := w) (by (repeat (first | exact List.Mem.head _ | apply List.Mem.tail))) (fun k hk => by (focus ((try simp only [add_block]); (repeat (first | exact NotOwned.nil | exact hno _ (by omega) | refine NotOwned.nothing ?_ | apply NotOwned.bif | refine NotOwned.blk (by omega) ?_ | refine NotOwned.row (by omega) ?_ | refine NotOwned.grid (by assumption) (by omega) ?_)); done)))).trans hx⟩, ((hw2.ext hx).forget (S' := [w]) (by simp)).note⟩
  rintro ⟨⟨q2, c2⟩, w2⟩ ⟨hs2, hx2⟩
  simp only at hs2 hx2 ⊢
  have hws := hx2.size
  have hsz : ∀ w3, Cls [] [w2, w] w3 → (∀ p : Addr, p.block < w.heap.size → w3.cell? p = w.cell? p) ∧ w.heap.size ≤ w3.heap.size := fun w3 hw3 =>
    ⟨hw3.below (s := w) (by (repeat (first | exact List.Mem.head _ | apply List.Mem.tail))) (Nat.le_refl _) (fun k hk => by (focus ((try simp only [add_block]); (repeat (first | exact NotOwned.nil | exact hno _ (by omega) | refine NotOwned.nothing ?_ | apply NotOwned.bif | refine NotOwned.blk (by omega) ?_ | refine NotOwned.row (by omega) ?_ | refine NotOwned.grid (by assumption) (by omega) ?_)); done))), (hw3.kp w (by (repeat (first | exact List.Mem.head _ | apply List.Mem.tail)))).size⟩
  apply omv; rfl; rfl
  apply oex; rfl; rfl; rfl
  apply oex; rfl; rfl; rfl
  apply oas; rfl; rfl
  apply oas; rfl; rfl
  apply OL.nil
  with_reducible apply At.next
  apply W.seq
  apply W.reg
  apply omv; rfl; rfl
  (((first | (with_reducible apply OL.op) | (with_reducible apply QL.op)); ((first | exact Guard.none | exact Guard.yes rfl rfl | exact Guard.no rfl rfl | exact Guard.cyes rfl rfl | exact Guard.cno rfl rfl)); rfl; rfl); (refine Pev.call (v := .int .i64 (chkF [] table)) rfl (by (repeat (first | exact Args.nil | (apply Args.cons rfl; ((first | exact fun _ => rfl | exact fun h => h | (intro h; simp_all; done))))))) (fun _ w3 hw3 => (fixError_calls tq tc table w3 (by omega) htc (ht.keep (hsz w3 hw3).1 (hsz w3 hw3).2)).mono (fun e w4 h => ⟨h.1, hw3.ext h.2⟩))))
  apply oas; rfl; rfl
  apply OL.nil
  with_reducible apply At.next
  apply W.seq
  apply W.seq
  apply W.reg
  apply omv; rfl; rfl
  (((first | (with_reducible apply OL.op) | (with_reducible apply QL.op)); ((first | exact Guard.none | exact Guard.yes rfl rfl | exact Guard.no rfl rfl | exact Guard.cyes rfl rfl | exact Guard.cno rfl rfl)); rfl; rfl); (refine Pev.call (v := .int .i64 (chkF [] table)) rfl (by (repeat (first | exact Args.nil | (apply Args.cons rfl; ((first | exact fun _ => rfl | exact fun h => h | (intro h; simp_all; done))))))) (fun _ w3 hw3 => (Check_calls tq tc table w3 (by omega) htc (ht.keep (hsz w3 hw3).1 (hsz w3 hw3).2)).mono (fun e w4 h => ⟨h.1, hw3.ext h.2⟩))))
  apply omv; rfl; rfl
  apply obn; rfl; rfl; rfl; apply Bin.neq
  apply OL.nil
  with_reducible apply At.next
  refine W.cond rfl (fun hc => by simp at hc) (fun _ => ?_)
  apply W.skip
  with_reducible apply At.next
  apply W.seq
  apply W.seq
  apply W.reg
  apply omv; rfl; rfl
  apply obn; rfl; rfl; rfl; apply Bin.eql
  apply omv; rfl; rfl
  apply OL.op; exact Guard.yes rfl rfl; rfl; rfl; apply Pev.move; rfl; exact yes
  apply OL.op; exact Guard.yes rfl rfl; rfl; rfl; apply Pev.len_slice; rfl; exact fun h => h; rfl
  apply OL.op; exact Guard.yes rfl rfl; rfl; rfl; apply Pev.bin; rfl; exact fun h => h; rfl; exact yes; intro hcond; apply Bin.rem_in; omega
  apply OL.op; exact Guard.yes rfl rfl; rfl; rfl; apply Pev.bin; rfl; exact fun h => h; rfl; exact yes; intro hcond; apply Bin.eql
  apply OL.op; exact Guard.none; rfl; rfl; apply Pev.pick_and; rfl; exact yes; rfl; exact fun h => h
  apply OL.nil
  with_reducible apply At.next
  refine W.joinc [(0, true, .slice tq table.length tc), (1, true, .slice iq its.length icp), (7, true, .slice q2 (bldR table its).1.length c2), (8, true, .int .i64 (bldR table its).2), (9, true, .int .i64 (if chkF [] table ≠ 0 then chkF [] table else if its.length % 2 = 0 then 3 else 0))] (Cls [] [w2, w]) ?_ ?_
  · refine W.cond rfl (fun hc => ?_) (fun hc => ?_)
    · simp only [Bool.and_eq_true, decide_eq_true_eq] at hc
      have e1 : (if chkF [] table ≠ 0 then chkF [] table else if its.length % 2 = 0 then (3 : Int) else 0) = 3 := by rw [if_neg (by simpa using hc.1), if_pos (by omega)]
      apply W.reg
      apply oas; rfl; rfl
      apply OL.nil
      exact At.joined (by rw [e1]; (repeat (first | exact Sub.nil | apply Sub.cons rfl))) (fun w' hw' => hw')
    · have e1 : (if chkF [] table ≠ 0 then chkF [] table else if its.length % 2 = 0 then (3 : Int) else 0) = chkF [] table := by
        by_cases h1 : chkF [] table = 0
        · rw [h1] at hc
          simp only [decide_true, Bool.true_and, decide_eq_false_iff_not] at hc
          rw [if_neg (by simpa using h1), if_neg (by omega), h1]
        · rw [if_pos h1]
      apply W.skip
      exact At.joined (by rw [e1]; (repeat (first | exact Sub.nil | apply Sub.cons rfl))) (fun w' hw' => hw')
  generalize hw0 : (if chkF [] table ≠ 0 then chkF [] table else if its.length % 2 = 0 then (3 : Int) else 0) = wv0
  have hfin : finE table its = if wv0 ≠ 0 then wv0 else if alt 0 its = false then 3 else 0 := by
    rw [← hw0, finE]
    by_cases h1 : chkF [] table ≠ 0
    · rw [if_pos h1, if_pos h1, if_pos h1]
    · rw [if_neg h1, if_neg h1]
      by_cases h2 : its.length % 2 = 0
      · rw [if_pos h2, if_pos h2, if_pos (show (3 : Int) ≠ 0 by decide)]
      · rw [if_neg h2, if_neg h2, if_neg (show ¬ (0 : Int) ≠ 0 by simp)]
  clear hw0
  apply W.seq
  apply W.seq
  apply W.reg
  apply omv; rfl; rfl
  apply OL.op; exact Guard.none; rfl; rfl; apply Pev.len_slice; rfl; exact yes; rfl
  apply omv; rfl; rfl
  apply OL.nil
  with_reducible apply At.next
  apply W.block
  refine W.loop (G := Nat × Int) (fun s => s.1 ≤ its.length ∧ ((s.2 = 0 ∧ wv0 = 0 ∧ alt s.1 (its.drop s.1) = alt 0 its) ∨ (s.2 ≠ 0 ∧ s.2 = finE table its))) (fun s => its.length - s.1)
    (fun s => [(57, true, .int .i64 (s.1 : Int)), (56, true, .int .i64 (its.length : Int)), (55, true, .slice iq its.length icp), (0, true, .slice tq table.length tc), (1, true, .slice iq its.length icp), (7, true, .slice q2 (bldR table its).1.length c2), (8, true, .int .i64 (bldR table its).2), (9, true, .int .i64 s.2)])
    (fun s => Cls [] [w2, w]) (0, wv0) ⟨by simp, by
      by_cases h1 : wv0 = 0
      · exact .inl ⟨h1, h1, rfl⟩
      · exact .inr ⟨h1, by rw [hfin, if_pos h1]⟩⟩ (by (repeat (first | exact Sub.nil | apply Sub.cons rfl))) (fun w' hw' => hw') ?_
  rintro ⟨i, wv⟩ ⟨hii, hst⟩
  simp only at hii hst ⊢
  apply W.seq
  apply W.reg
  apply obn; rfl; rfl; rfl; apply Bin.lss
  apply OL.nil
  with_reducible apply At.next
  apply W.seq
  (refine W.cond rfl (fun hlt => ?_) (fun hlt => ?_)) <;> (try (simp only [Bool.and_eq_true, Bool.or_eq_true, Bool.not_eq_true', Bool.and_eq_false_iff, Bool.or_eq_false_iff, Bool.not_eq_false', decide_eq_true_eq, decide_eq_false_iff_not, Int.not_lt, Int.not_le] at hlt)) <;> (try (exfalso; first | omega | exact hlt trivial | contradiction))
  · obtain ⟨a, x, rfl, hab, hx, hcell⟩ := (hi.ext hx2 (Nat.le_refl _)).elem ilen (by decide) (show i < its.length by omega)
    unfold ic at hcell
    apply W.skip
    with_reducible apply At.next
    apply W.seq
    apply W.block
    apply W.seq
    apply W.reg
    apply omv; rfl; rfl
    apply OL.op; exact Guard.none; rfl; rfl; apply Pev.idx; rfl; exact yes; rfl; exact yes; rfl; rfl; intro hcond; omega
    apply OL.op; exact Guard.none; rfl; rfl; apply Pev.load_keptA; rfl; exact yes; exact .head _; rfl; intro hcond; assumption; rfl; intro hcond; (rw [add_block]; assumption); intro hcond; exact NotOwned.nil
    apply OL.alloc; rfl; rfl; exact CellsL.agg; (intro bk hbk; simp only [AllLe, and_true] at hbk)
    apply oas; rfl; rfl
    apply OL.storeB; rfl; rfl; exact CellsL.agg; rfl; rfl; rfl; apply Swap.z; apply Put.here; apply Over.cons; apply Over.cons; apply Over.nil
    apply OL.nil
    with_reducible apply At.next
    apply W.seq
    apply W.reg
    apply omv; rfl; rfl
    apply obn; rfl; rfl; rfl; apply Bin.eql
    apply omv; rfl; rfl
    apply OL.op; exact Guard.yes rfl rfl; rfl; rfl; apply Pev.fld; rfl; exact yes; rfl
    apply OL.op; exact Guard.yes rfl rfl; rfl; rfl; apply Pev.load_blk; rfl; exact fun h => h; exact .head _; rfl; rfl
    apply OL.op; exact Guard.yes rfl rfl; rfl; rfl; apply Pev.bin; rfl; exact fun h => h; rfl; exact yes; intro hcond; apply Bin.str_eql
    apply OL.op; exact Guard.yes rfl rfl; rfl; rfl; apply Pev.move; rfl; exact yes
    apply OL.op; exact Guard.yes rfl rfl; rfl; rfl; apply Pev.bin; rfl; exact fun h => h; rfl; exact yes; intro hcond; apply Bin.rem_in; omega
    apply OL.op; exact Guard.yes rfl rfl; rfl; rfl; apply Pev.bin; rfl; exact fun h => h; rfl; exact yes; intro hcond; apply Bin.eql
    apply OL.op; exact Guard.yes rfl rfl; rfl; rfl; apply Pev.bin; rfl; exact fun h => h; rfl; exact fun h => h; intro hcond; apply Bin.bool_eql; rfl
    apply OL.op; exact Guard.none; rfl; rfl; apply Pev.pick_and; rfl; exact yes; rfl; exact fun h => h
    apply OL.nil
    with_reducible apply At.next
    have hdi : decide ((i : Int) % 2 = 1) = !decide (i % 2 = 0) := by
      by_cases e : i % 2 = 0
      · have e2 : ¬ (i : Int) % 2 = 1 := by omega
        simp [e, e2]
      · have e2 : (i : Int) % 2 = 1 := by omega
        simp [e, e2]
    rw [hdi]
    refine W.cond rfl (fun hc => ?_) (fun hc => ?_)
    · simp only [Bool.and_eq_true, decide_eq_true_eq] at hc
      obtain ⟨h1, h2, h3⟩ := hst.resolve_right (fun h => h.1 hc.1)
      rw [alt_step hx] at h3
      have h4 : (decide (x.op = ⟨#[]⟩) == decide (i % 2 = 0)) = false := by
        have := hc.2
        cases hd : decide (i % 2 = 0) <;> cases ho : decide (x.op = ⟨#[]⟩) <;> simp [hd, ho] at this ⊢
      rw [h4, Bool.false_and] at h3
      apply W.reg
      apply oas; rfl; rfl
      apply OL.nil
      with_reducible apply At.in_normal
      with_reducible apply At.next
      apply W.reg
      apply obn; rfl; rfl; rfl; apply Bin.add_in; omega
      apply omv; rfl; rfl
      apply OL.nil
      exact At.again (i + 1, 3) ⟨by simp only; omega, .inr ⟨show (3 : Int) ≠ 0 by decide, by rw [hfin, if_neg (by simpa using h2), if_pos h3.symm]⟩⟩ (by simp only; omega) (by (repeat (first | exact Sub.nil | apply Sub.cons rfl))) (fun w' hw' => hw'.thin (by (repeat (first | exact Thin.nil | exact Thin.same | apply Thin.keep | (refine Thin.blk (by assumption) ?_) | (refine Thin.blk (by simp only [AllLe, and_true]; omega) ?_)))))
    · apply W.skip
      with_reducible apply At.in_normal
      with_reducible apply At.next
      apply W.reg
      apply obn; rfl; rfl; rfl; apply Bin.add_in; omega
      apply omv; rfl; rfl
      apply OL.nil
      refine At.again (i + 1, wv) ⟨by simp only; omega, ?_⟩ (by simp only; omega) (by (repeat (first | exact Sub.nil | apply Sub.cons rfl))) (fun w' hw' => hw'.thin (by (repeat (first | exact Thin.nil | exact Thin.same | apply Thin.keep | (refine Thin.blk (by assumption) ?_) | (refine Thin.blk (by simp only [AllLe, and_true]; omega) ?_)))))
      rcases hst with ⟨h1, h2, h3⟩ | h1
      · refine .inl ⟨h1, h2, ?_⟩
        rw [h1] at hc
        rw [alt_step hx] at h3
        have h4 : (decide (x.op = ⟨#[]⟩) == decide (i % 2 = 0)) = true := by
          simp only [decide_true, Bool.true_and] at hc
          cases hd : decide (i % 2 = 0) <;> cases ho : decide (x.op = ⟨#[]⟩) <;> simp [hd, ho] at hc ⊢
        rw [h4, Bool.true_and] at h3
        exact h3
      · exact .inr h1
  · obtain rfl : i = its.length := by omega
    have hwf : wv = finE table its := by
      rcases hst with ⟨h1, h2, h3⟩ | ⟨_, h1⟩
      · rw [List.drop_length] at h3
        have h4 : alt 0 its = true := h3.symm
        rw [hfin, if_neg (by simpa using h2), if_neg (by rw [h4]; simp), h1]
      · exact h1
    subst hwf
    apply W.exit
    with_reducible apply At.then_exit
    with_reducible apply At.then_exit
    with_reducible apply At.in_exit
    with_reducible apply At.next
    apply W.seq
    apply W.seq
    apply W.reg
    apply omv; rfl; rfl
    apply obn; rfl; rfl; rfl; apply Bin.neq
    apply OL.nil
    with_reducible apply At.next
    refine W.cond rfl (fun hc => ?_) (fun hc => ?_)
    · have hb := finE_bld (table := table) (its := its) (by simpa using hc)
      rw [hb]
      apply W.seq
      apply W.reg
      apply omv; rfl; rfl
      apply omv; rfl; rfl
      apply obn; rfl; rfl; rfl; apply Bin.eql
      apply omv; rfl; rfl
      apply OL.op; exact Guard.yes rfl rfl; rfl; rfl; apply Pev.move; rfl; exact yes
      apply OL.op; exact Guard.yes rfl rfl; rfl; rfl; apply Pev.len_slice; rfl; exact fun h => h; rfl
      apply OL.op; exact Guard.yes rfl rfl; rfl; rfl; apply Pev.bin; rfl; exact fun h => h; rfl; exact yes; intro hcond; apply Bin.eql
      apply OL.op; exact Guard.none; rfl; rfl; apply Pev.pick_and; rfl; exact yes; rfl; exact fun h => h
      apply oas; rfl; rfl
      apply OL.nil
      with_reducible apply At.next
      apply W.ret
      with_reducible apply At.then_ret
      ((with_reducible apply At.fin1); rfl; rfl; intro w' hw')
      exact ⟨by simp, by (exact hw'.toExt (by (repeat (first | exact List.Mem.head _ | apply List.Mem.tail))) (fun k hk => by (focus ((try simp only [add_block]); (repeat (first | exact NotOwned.nil | exact hno _ (by omega) | refine NotOwned.nothing ?_ | apply NotOwned.bif | refine NotOwned.blk (by omega) ?_ | refine NotOwned.row (by omega) ?_ | refine NotOwned.grid (by assumption) (by omega) ?_)); done))))⟩
    · have hf0 : finE table its = 0 := by simpa using hc
      obtain ⟨hk1, hk2, hk3⟩ := finE_ok hf0
      obtain ⟨y0, hy0⟩ : ∃ y, its = y :: its.drop 1 := by
        match its, hk2 with
        | y :: r, _ => exact ⟨y, rfl⟩
      have hops : ∀ p ∈ pairs table (its.drop 1), p.1.op ≠ ⟨#[]⟩ := alt_ops table _ 1 (its.drop 1) (Nat.le_refl _) rfl (by
        rw [hy0, alt, Bool.and_eq_true] at hk3
        exact hk3.2)
      have hol := op_len (table := table) hil
      apply W.skip
      with_reducible apply At.next
      apply W.seq
      apply W.reg
      apply omv; rfl; rfl
      apply omv; rfl; rfl
      refine OL.callE (α := (Option Addr × Nat) × World) (fun x => .tuple #[.slice x.1.1 (opR table its).1.length x.1.2, .bool (opR table its).2]) (fun x => SlAt x.2 x.2.heap.size x.1.1 (cat nc (opR table its).1) ∧ SlAt x.2 x.2.heap.size q2 (cat nc (bldR table its).1) ∧ Ext w x.2) (fun x => Cls [] [x.2, w]) rfl rfl (by (repeat (first | exact Args.nil | (apply Args.cons rfl; ((first | exact fun _ => rfl | exact fun h => h | (intro h; simp_all; done))))))) (fun w3 hw3 => ?_) ?_
      · refine (Operators_calls table tq tc htl (fun op => find_ok hk1 op) its.length its iq icp w3 (Nat.le_refl _) hil hk2 hic hops (ht.keep (hsz w3 hw3).1 (hsz w3 hw3).2) (hi.keep (hsz w3 hw3).1 (hsz w3 hw3).2)).mono (fun e w4 ⟨x, he, hx, hrow, hlt⟩ => ?_)
        exact ⟨((x.q, x.c), w4), he, ⟨SlAt.of_row hrow, hs2.ext ((hw3.toExt (s := w2) (by (repeat (first | exact List.Mem.head _ | apply List.Mem.tail))) (fun k hk => by (focus ((try simp only [add_block]); (repeat (first | exact NotOwned.nil | exact hno _ (by omega) | refine NotOwned.nothing ?_ | apply NotOwned.bif | refine NotOwned.blk (by omega) ?_ | refine NotOwned.row (by omega) ?_ | refine NotOwned.grid (by assumption) (by omega) ?_)); done)))).trans hx) (Nat.le_refl _), (hw3.toExt (s := w) (by (repeat (first | exact List.Mem.head _ | apply List.Mem.tail))) (fun k hk => by (focus ((try simp only [add_block]); (repeat (first | exact NotOwned.nil | exact hno _ (by omega) | refine NotOwned.nothing ?_ | apply NotOwned.bif | refine NotOwned.blk (by omega) ?_ | refine NotOwned.row (by omega) ?_ | refine NotOwned.grid (by assumption) (by omega) ?_)); done)))).trans hx⟩, ((hw3.ext hx).forget (S' := [w]) (by simp)).note⟩
      clear hs2 hx2 hws hsz
      rintro ⟨⟨q3, c3⟩, w3⟩ ⟨hs3, hs2, hx3⟩
      simp only at hs3 hs2 hx3 ⊢
      have hws := hx3.size
      rcases bld_op hf0 with ⟨ho2, ho1, hb⟩ | ⟨ho2, hb⟩
      · rw [ho2, hb]
        apply omv; rfl; rfl
        apply oex; rfl; rfl; rfl
        apply oex; rfl; rfl; rfl
        apply oas; rfl; rfl
        apply oas; rfl; rfl
        apply OL.nil
        with_reducible apply At.next
        apply W.seq
        apply W.seq
        apply W.reg
        apply omv; rfl; rfl
        apply OL.op; exact Guard.none; rfl; rfl; apply Pev.not; rfl; exact yes
        apply OL.nil
        with_reducible apply At.next
        refine W.cond rfl (fun _ => ?_) (fun hc => by simp at hc)
        apply W.seq
        apply W.reg
        apply omv; rfl; rfl
        apply obn; rfl; rfl; rfl; apply Bin.eql
        apply omv; rfl; rfl
        apply OL.op; exact Guard.yes rfl rfl; rfl; rfl; apply Pev.move; rfl; exact yes
        apply OL.op; exact Guard.yes rfl rfl; rfl; rfl; apply Pev.len_slice; rfl; exact yes; rfl
        apply OL.op; exact Guard.yes rfl rfl; rfl; rfl; apply Pev.bin; rfl; exact yes; rfl; exact yes; intro hcond; apply Bin.eql
        apply OL.op; exact Guard.none; rfl; rfl; apply Pev.pick_and; rfl; exact yes; rfl; exact yes
        apply oas; rfl; rfl
        apply OL.nil
        with_reducible apply At.next
        apply W.ret
        with_reducible apply At.then_ret
        ((with_reducible apply At.fin1); rfl; rfl; intro w' hw')
        exact ⟨by simp, by (exact hw'.toExt (by (repeat (first | exact List.Mem.head _ | apply List.Mem.tail))) (fun k hk => by (focus ((try simp only [add_block]); (repeat (first | exact NotOwned.nil | exact hno _ (by omega) | refine NotOwned.nothing ?_ | apply NotOwned.bif | refine NotOwned.blk (by omega) ?_ | refine NotOwned.row (by omega) ?_ | refine NotOwned.grid (by assumption) (by omega) ?_)); done))))⟩
      · rw [hb] at hs2
        rw [ho2, hb]
        apply omv; rfl; rfl
        apply oex; rfl; rfl; rfl
        apply oex; rfl; rfl; rfl
        apply oas; rfl; rfl
        apply oas; rfl; rfl
        apply OL.nil
        with_reducible apply At.next
        apply W.seq
        apply W.seq
        apply W.reg
        apply omv; rfl; rfl
        apply OL.op; exact Guard.none; rfl; rfl; apply Pev.not; rfl; exact yes
        apply OL.nil
        with_reducible apply At.next
        refine W.cond rfl (fun hc => by simp at hc) (fun _ => ?_)
        apply W.skip
        with_reducible apply At.next
        apply W.seq
        apply W.reg
        apply omv; rfl; rfl
        apply obn; rfl; rfl; rfl; apply Bin.eql
        apply omv; rfl; rfl
        apply OL.op; exact Guard.yes rfl rfl; rfl; rfl; apply Pev.move; rfl; exact yes
        apply OL.op; exact Guard.yes rfl rfl; rfl; rfl; apply Pev.move; rfl; exact yes
        (((first | (with_reducible apply OL.op) | (with_reducible apply QL.op)); ((first | exact Guard.none | exact Guard.yes rfl rfl | exact Guard.no rfl rfl | exact Guard.cyes rfl rfl | exact Guard.cno rfl rfl)); rfl; rfl); (refine Pev.call (v := .bool true) rfl (by (repeat (first | exact Args.nil | (apply Args.cons rfl; ((first | exact fun _ => rfl | exact fun h => h | (intro h; simp_all; done))))))) (fun _ w4 hw4 => ?_)))
        · have h1 := hw4.below (s := w3) (B := w3.heap.size) (by (repeat (first | exact List.Mem.head _ | apply List.Mem.tail))) (Nat.le_refl _) (fun k hk => by (focus ((try simp only [add_block]); (repeat (first | exact NotOwned.nil | exact hno _ (by omega) | refine NotOwned.nothing ?_ | apply NotOwned.bif | refine NotOwned.blk (by omega) ?_ | refine NotOwned.row (by omega) ?_ | refine NotOwned.grid (by assumption) (by omega) ?_)); done)))
          have h2 := (hw4.kp w3 (by (repeat (first | exact List.Mem.head _ | apply List.Mem.tail)))).size
          exact (Equal_calls q2 q3 c2 c3 (opR table its).1 w4 (by omega) (hs2.keep h1 h2) (hs3.keep h1 h2)).mono (fun e w5 h => ⟨h.1, hw4.ext h.2⟩)
        apply OL.op; exact Guard.none; rfl; rfl; apply Pev.pick_and; rfl; exact yes; rfl; exact yes
        apply oas; rfl; rfl
        apply OL.nil
        with_reducible apply At.next
        apply W.ret
        ((with_reducible apply At.fin1); rfl; rfl; intro w' hw')
        exact ⟨by simp, by (exact hw'.toExt (by (repeat (first | exact List.Mem.head _ | apply List.Mem.tail))) (fun k hk => by (focus ((try simp only [add_block]); (repeat (first | exact NotOwned.nil | exact hno _ (by omega) | refine NotOwned.nothing ?_ | apply NotOwned.bif | refine NotOwned.blk (by omega) ?_ | refine NotOwned.row (by omega) ?_ | refine NotOwned.grid (by assumption) (by omega) ?_)); done))))⟩
end Go.Proofs.Ytmmjkpbpmhaooaa.fx
