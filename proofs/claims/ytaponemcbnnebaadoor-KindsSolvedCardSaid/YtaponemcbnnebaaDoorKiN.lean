/- The law KindsOfVars. Conditions: none. -/
import Derived.Test.YtaponemcbnnebaaDoorKiM
namespace Go.Ki
open Go.Eng Go.RowKit
set_option linter.unusedVariables false
set_option linter.unusedSimpArgs false
/-- the data types of the law -/
def lD (pi qm cn : ByteArray) (n : Nat) (p : Pa) (qc qa : Option Addr) : List DD := [⟨pi, 0, none, 0, []⟩, ⟨qm, n, qc, 1, [⟨cn, qa, 1, [p]⟩]⟩]
section
variable {pi qm cn : ByteArray} {n : Nat} {p : Pa} {qc qa : Option Addr}
theorem lD_bsum : bsum (dss (lD pi qm cn n p qc qa)) 2 = n := by simp [bsum, dss, lD, DD.ds]
theorem lD_ok (hne : pi ≠ qm) (hn : nmsT qm p.t = false) (f : List Int) : okD (dss (lD pi qm cn n p qc qa)) f 0 (lD pi qm cn n p qc qa) = okV [pi] n p.t f := by
  have e1 : okD (dss (lD pi qm cn n p qc qa)) f 0 (lD pi qm cn n p qc qa) = req (pkR (dss (lD pi qm cn n p qc qa)) f) (vsR (dss (lD pi qm cn n p qc qa)) f 1) p.t 0 := by
    simp only [lD, okD, okC, okA, List.all_cons, List.all_nil, Bool.and_true, Bool.true_and]
  have e2 : vsR (dss (lD pi qm cn n p qc qa)) f 1 = (vsN n).map (fOf f) := by
    have hd : (dss (lD pi qm cn n p qc qa)).getD 1 ⟨⟨#[]⟩, 0, none, 0, 0⟩ = ⟨qm, n, qc, 1, 1⟩ := rfl
    have hb1 : bsum (dss (lD pi qm cn n p qc qa)) 1 = 0 := by simp [bsum, dss, lD, DD.ds]
    unfold vsR vsN
    rw [hd, hb1, List.map_map]
    refine List.map_congr_left fun a ha => ?_
    rw [Nat.zero_add]
    exact (fOf_get (List.mem_range.1 ha)).symm
  rw [e1, e2]
  unfold okV
  refine req_congr _ qm (fun nm hnm => ?_) p.t 0 hn
  simp only [pkR, pkF, lD, dss, DD.ds, fiOf, psF, List.map_cons, List.map_nil, hasB]
  by_cases h : pi = nm
  · subst h
    simp
  · rw [if_neg h, if_neg (fun e => hnm e.symm)]
    simp [show ¬ nm = pi from fun e => h e.symm]
theorem lD_found (hne : pi ≠ qm) (hn : nmsT qm p.t = false) : foundR (lD pi qm cn n p qc qa) n (p3 n) = foundB n (okV [pi] n p.t) := by
  unfold foundR foundB
  congr 1
  funext f
  exact lD_ok hne hn f
theorem lD_kinds (hne : pi ≠ qm) (hn : nmsT qm p.t = false) : kindsR (lD pi qm cn n p qc qa) n = if foundB n (okV [pi] n p.t) = [] then none else some [[], (List.range n).map (agree (foundB n (okV [pi] n p.t)))] := by
  unfold kindsR
  rw [lD_found hne hn]
  split
  · rfl
  · congr 1
    have hb1 : bsum (dss (lD pi qm cn n p qc qa)) 1 = 0 := by simp [bsum, dss, lD, DD.ds]
    have h2 : (lD pi qm cn n p qc qa).length = 2 := rfl
    rw [h2, show List.range 2 = [0, 1] from rfl]
    simp only [List.map_cons, List.map_nil, hb1, Nat.zero_add]
    rfl
/-- the law's first line -/
def t0 : Pa := ⟨.mk 0 ⟨#[]⟩ 0 [], none, 0⟩
theorem first_answer {er : Int} {xs : List Int} (h : VarsR [] 1 t0.t er xs) : er = 0 ∧ xs = [0] := by
  have hf : foundB 1 (okV [] 1 t0.t) = [[0]] := by decide +kernel
  have h1 := (vars_answer h (by decide +kernel) (by decide +kernel)).2 (by rw [hf]; simp)
  rw [hf] at h1
  refine ⟨h1.1, h1.2.trans ?_⟩
  decide +kernel
end
end Go.Ki
namespace Go.Proofs.YtaponemcbnnebaaDoor.ki
open Go.RowKit Go.Eng Go.Ki
open Go.Proofs.YtaponemcbnnebaaDoor.uc (sizesAt)
set_option linter.unusedVariables false
set_option linter.unusedSimpArgs false
set_option maxRecDepth 100000
theorem law (nI : Int) (p : Pa) (w : World) (hnI : I64 nI) (ht : TyC w w.heap.size p.t (tcc p)) (hg : 0 < w.heap.size) (hs : sizesAt w) :
    Calls Tryd.prog 4 [.int .i64 nI, .agg (tcc p).toArray].toArray w fun e w' => e = .returned (.bool true) ∧ Ext w w' := by
  have hfac : ∀ (H : List Eng.Item) (S : List World) (w2 : World), (∀ k, k < w.heap.size → NotOwned H k) → w ∈ S → Cls H S w2 → TyC w2 w2.heap.size p.t (tcc p) ∧ 0 < w2.heap.size ∧ sizesAt w2 := fun H S w2 hno hS hw2 =>
    have hbel := hw2.below (s := w) hS (Nat.le_refl _) hno
    have hsz := (hw2.kp w hS).size
    ⟨TyC.keep hbel hsz ht, by omega, hs.keep hg hbel⟩
  refine enter Tryd.func4 rfl Tryd.ntmps4 rfl (Cls.start w) ?_
  (simp only [argEnv, Nat.zero_add, Nat.reduceAdd])
  have htc := ht
  simp only [tcc]
  apply W.seq
  apply W.reg
  apply OL.box; rfl; rfl; exact CellsL.agg; (intro bk hbk; simp only [AllLe, and_true] at hbk)
  apply oas; rfl; rfl
  apply OL.nil
  with_reducible apply At.next
  apply W.seq
  apply W.seq
  apply W.reg
  apply OL.op; exact Guard.none; rfl; rfl; apply Pev.build; rfl; exact CellsL.agg; rfl; apply Fill.nil; rfl
  revert bk
  intro bt hbt
  refine OL.callE (α := World × Option Addr × Nat) (fun x => .tuple #[.slice x.2.1 1 x.2.2, .int .i64 0]) (fun x => w.heap.size ≤ x.1.heap.size ∧ SlAt x.1 x.1.heap.size x.2.1 (ins [0]) ∧ CellsAt x.1 ⟨bt, 0, none⟩ [.int .i64 p.t.kind, .string p.t.name, .int .i64 p.t.var, .slice p.q p.t.args.length p.cap] ∧ bt < x.1.heap.size) (fun x => Cls [] [x.1, w]) rfl rfl (by (repeat (first | exact Args.nil | (apply Args.cons rfl; ((first | exact fun _ => rfl | exact fun h => h | (intro h; simp_all; done))))))) (fun w2 hw2 => ?_) ?_
  · obtain ⟨_, f2, f3⟩ := hfac _ _ w2 (fun k hk => by (focus ((try simp only [add_block]); (repeat (first | exact NotOwned.nil | exact hno _ (by omega) | refine NotOwned.nothing ?_ | refine NotOwned.nds (hlow _ (by omega)) ?_ | refine NotOwned.mapS (by omega) ?_ | apply NotOwned.bif | refine NotOwned.blk (by omega) ?_ | refine NotOwned.row (by omega) ?_ | refine NotOwned.grid (by assumption) (by omega) ?_ | refine NotOwned.pile (by omega) ?_)); done))) (.head _) hw2
    refine (vars_calls none 0 1 [] t0 w2 (by simp) (by simp) (by omega) SlAt.nil (by
      simp only [t0, TyC, tcc, Ty.kind, Ty.name, Ty.var, Ty.args]
      exact ⟨none, 0, rfl, by unfold I64; omega, by unfold I64; omega, by simp, fun h => by simp at h⟩) f2 f3).mono fun e w3 ⟨er, a, c, xs, h1, h2, h3, h4⟩ => ?_
    obtain ⟨rfl, rfl⟩ := first_answer h2
    have hw3 := hw2.ext h3
    have hb3 : (blk bt 24 [.int .i64 p.t.kind, .string p.t.name, .int .i64 p.t.var, .slice p.q p.t.args.length p.cap]).holds w3 := hw3.item (.head _)
    exact ⟨(w3, a, c), h1, ⟨Nat.le_trans (hw2.kp w (.head _)).size h3.size, h4, fun j v hj => by rw [add_mid, blk_cell hb3]; simpa using hj, hw3.lt _ (.head _) bt rfl⟩, (hw3.thin (by (repeat (first | exact Thin.nil | exact Thin.same | apply Thin.keep | (refine Thin.blk (by assumption) ?_) | (refine Thin.blk (by simp only [AllLe, and_true]; omega) ?_))))).note⟩
  rintro ⟨w1, a1, c1⟩ ⟨hsz1, hx1, hbc, hbl⟩
  simp only at hsz1 hx1 hbc hbl ⊢
  apply omv; rfl; rfl
  apply oex; rfl; rfl; rfl
  apply oex; rfl; rfl; rfl
  apply oas; rfl; rfl
  apply oas; rfl; rfl
  apply OL.nil
  with_reducible apply At.next
  apply W.seq
  apply W.reg
  apply omv; rfl; rfl
  apply obn; rfl; rfl; rfl; apply Bin.neq
  apply omv; rfl; rfl
  apply OL.op; exact Guard.no rfl rfl; rfl; rfl; apply Pev.move; rfl; exact yes
  ((apply OL.ungate); ((first | exact Guard.none | exact Guard.yes rfl rfl | exact Guard.no rfl rfl | exact Guard.cyes rfl rfl | exact Guard.cno rfl rfl)); (decide))
  apply OL.buildSlice; rfl; rfl; rfl; apply Elems.cons rfl; exact CellsL.one rfl; rfl; apply Elems.nil; apply App.cons; apply App.nil; rfl; rfl; (intro bk hbk; simp only [AllLe, and_true] at hbk)
  (((first | (with_reducible apply OL.op) | (with_reducible apply QL.op)); ((first | exact Guard.none | exact Guard.yes rfl rfl | exact Guard.no rfl rfl | exact Guard.cyes rfl rfl | exact Guard.cno rfl rfl)); rfl; rfl); (exact Pev.call (v := .bool true) rfl (by (repeat (first | exact Args.nil | (apply Args.cons rfl; ((first | exact fun _ => rfl | exact fun h => h | (intro h; simp_all; done))))))) (fun _ w2 hw2 => (IEqual_calls a1 (some ⟨bk, 0, none⟩) c1 1 [0] [0] w2 (by decide) (by decide) (hx1.keep (hw2.below (s := w1) (.head _) (Nat.le_refl _) (fun k hk => by (focus ((try simp only [add_block]); (repeat (first | exact NotOwned.nil | exact hno _ (by omega) | refine NotOwned.nothing ?_ | refine NotOwned.nds (hlow _ (by omega)) ?_ | refine NotOwned.mapS (by omega) ?_ | apply NotOwned.bif | refine NotOwned.blk (by omega) ?_ | refine NotOwned.row (by omega) ?_ | refine NotOwned.grid (by assumption) (by omega) ?_ | refine NotOwned.pile (by omega) ?_)); done)))) (hw2.kp w1 (.head _)).size) (SlAt.of_blk (o := 0) (hw2.item (.head _)) (fun j v hj => by rw [Nat.zero_add]; exact hj))).mono (fun e w3 h => ⟨by rw [h.1]; rfl, hw2.ext h.2⟩))))
  apply OL.op; exact Guard.no rfl rfl; rfl; rfl; apply Pev.not; rfl; exact yes
  apply OL.op; exact Guard.none; rfl; rfl; apply Pev.pick_or; rfl; exact yes; rfl; exact yes
  apply OL.nil
  with_reducible apply At.next
  refine W.cond rfl (fun hb => by simp at hb) (fun _ => ?_)
  refine W.cls (C' := Cls [] [w1, w]) (fun w' hw' => hw'.thin (by (repeat (first | exact Thin.nil | exact Thin.same | apply Thin.keep | (refine Thin.blk (by assumption) ?_) | (refine Thin.blk (by simp only [AllLe, and_true]; omega) ?_))))) ?_
  obtain ⟨n, hn4, hnn⟩ : ∃ n : Nat, n ≤ 4 ∧ (n : Int) = (if 4 < (if nI < 0 then 0 else nI) then 4 else (if nI < 0 then 0 else nI)) := by
    refine ⟨(if 4 < (if nI < 0 then 0 else nI) then 4 else (if nI < 0 then 0 else nI)).toNat, ?_, ?_⟩
    · split <;> split at * <;> omega
    · split <;> split at * <;> omega
  apply W.skip
  with_reducible apply At.next
  apply W.seq
  apply W.reg
  apply omv; rfl; rfl
  apply OL.op; exact Guard.none; rfl; rfl; apply Pev.max2; rfl; exact yes; rfl; exact yes
  apply OL.op; exact Guard.none; rfl; rfl; apply Pev.min2; rfl; exact yes; rfl; exact yes
  apply oas; rfl; rfl
  apply OL.nil
  with_reducible apply At.next
  apply W.seq
  apply W.reg
  apply OL.op; exact Guard.none; rfl; rfl; apply Pev.build; rfl; exact CellsL.agg; rfl; apply Fill.cons rfl; exact CellsL.one rfl; rfl; rfl; apply Put.here; apply Over.cons; apply Over.nil; apply Fill.nil; rfl
  apply OL.buildSlice; rfl; rfl; rfl; apply Elems.cons rfl; exact CellsL.agg; rfl; apply Elems.nil; apply App.cons; apply App.cons; apply App.nil; rfl; rfl; (intro bk hbk; simp only [AllLe, and_true] at hbk)
  apply omv; rfl; rfl
  apply OL.op; exact Guard.none; rfl; rfl; apply Pev.load_keptA; rfl; exact yes; exact .head _; rfl; intro hcond; assumption; rfl; intro hcond; assumption; intro hcond; simp only [add_block]; refine NotOwned.blk (by omega) ?_; exact NotOwned.nil
  rw [← hnn]
  refine OL.callE (α := World × Int × Option Addr × Nat × List Int) (fun x => .tuple #[.slice x.2.2.1 x.2.2.2.2.length x.2.2.2.1, .int .i64 x.2.1]) (fun x => w1.heap.size ≤ x.1.heap.size ∧ VarsR [⟨#[80, 114, 101, 108, 117, 100, 101, 46, 73, 110, 116]⟩] n p.t x.2.1 x.2.2.2.2 ∧ SlAt x.1 x.1.heap.size x.2.2.1 (ins x.2.2.2.2)) (fun x => Cls [] [x.1, w1, w]) rfl rfl (by (repeat (first | exact Args.nil | (apply Args.cons rfl; ((first | exact fun _ => rfl | exact fun h => h | (intro h; simp_all; done))))))) (fun w2 hw2 => ?_) ?_
  · obtain ⟨f1, f2, f3⟩ := hfac _ _ w2 (fun k hk => by (focus ((try simp only [add_block]); (repeat (first | exact NotOwned.nil | exact hno _ (by omega) | refine NotOwned.nothing ?_ | refine NotOwned.nds (hlow _ (by omega)) ?_ | refine NotOwned.mapS (by omega) ?_ | apply NotOwned.bif | refine NotOwned.blk (by omega) ?_ | refine NotOwned.row (by omega) ?_ | refine NotOwned.grid (by assumption) (by omega) ?_ | refine NotOwned.pile (by omega) ?_)); done))) (.tail _ (.head _)) hw2
    refine (vars_calls (some ⟨bk, 0, none⟩) 1 n [⟨#[80, 114, 101, 108, 117, 100, 101, 46, 73, 110, 116]⟩] p w2 (by simp) (by simp) hn4 (SlAt.of_blk (o := 0) (hw2.item (.head _)) (fun j v hj => by rw [Nat.zero_add]; exact hj)) f1 f2 f3).mono fun e w3 ⟨er, a, c, xs, h1, h2, h3, h4⟩ => ?_
    exact ⟨(w3, er, a, c, xs), h1, ⟨Nat.le_trans (hw2.kp w1 (.head _)).size h3.size, h2, h4⟩, ((hw2.ext h3).thin (by (repeat (first | exact Thin.nil | exact Thin.same | apply Thin.keep | (refine Thin.blk (by assumption) ?_) | (refine Thin.blk (by simp only [AllLe, and_true]; omega) ?_))))).note⟩
  rintro ⟨w2, er, a2, c2, xs⟩ ⟨hsz2, hV, hx2⟩
  simp only at hsz2 hV hx2 ⊢
  clear hx1
  apply omv; rfl; rfl
  apply oex; rfl; rfl; rfl
  apply oex; rfl; rfl; rfl
  apply oas; rfl; rfl
  apply oas; rfl; rfl
  apply OL.nil
  with_reducible apply At.next
  apply W.seq
  apply W.reg
  apply OL.op; exact Guard.none; rfl; rfl; apply Pev.build; rfl; exact CellsL.agg; rfl; apply Fill.cons rfl; exact CellsL.one rfl; rfl; rfl; apply Put.here; apply Over.cons; apply Over.nil; apply Fill.nil; rfl
  apply omv; rfl; rfl
  apply OL.op; exact Guard.none; rfl; rfl; apply Pev.load_keptA; rfl; exact yes; exact .tail _ (.head _); rfl; intro hcond; assumption; rfl; intro hcond; assumption; intro hcond; exact NotOwned.nil
  apply OL.buildSlice; rfl; rfl; rfl; apply Elems.cons rfl; exact CellsL.agg; rfl; apply Elems.nil; apply App.cons; apply App.cons; apply App.cons; apply App.cons; apply App.nil; rfl; rfl; (intro bk hbk; simp only [AllLe, and_true] at hbk)
  apply OL.op; exact Guard.none; rfl; rfl; apply Pev.build; rfl; exact CellsL.agg; rfl; apply Fill.cons rfl; exact CellsL.one rfl; rfl; rfl; apply Put.here; apply Over.cons; apply Over.nil; apply Fill.cons rfl; exact CellsL.one rfl; rfl; rfl; apply Put.skip; apply Put.here; apply Over.cons; apply Over.nil; apply Fill.nil; rfl
  apply OL.buildSlice; rfl; rfl; rfl; apply Elems.cons rfl; exact CellsL.agg; rfl; apply Elems.nil; apply App.cons; apply App.cons; apply App.nil; rfl; rfl; (intro bk hbk; simp only [AllLe, and_true] at hbk)
  apply OL.op; exact Guard.none; rfl; rfl; apply Pev.build; rfl; exact CellsL.agg; rfl; apply Fill.cons rfl; exact CellsL.one rfl; rfl; rfl; apply Put.here; apply Over.cons; apply Over.nil; apply Fill.cons rfl; exact CellsL.one rfl; rfl; rfl; apply Put.skip; apply Put.here; apply Over.cons; apply Over.nil; apply Fill.cons rfl; exact CellsL.one rfl; rfl; rfl; apply Put.skip; apply Put.skip; apply Put.here; apply Over.cons; apply Over.nil; apply Fill.nil; rfl
  apply OL.buildSlice; rfl; rfl; rfl; apply Elems.cons rfl; exact CellsL.agg; rfl; apply Elems.cons rfl; exact CellsL.agg; rfl; apply Elems.nil; apply App.cons; apply App.cons; apply App.cons; apply App.nil; apply App.cons; apply App.cons; apply App.cons; apply App.nil; rfl; rfl; (intro bk hbk; simp only [AllLe, and_true] at hbk)
  apply oas; rfl; rfl
  apply OL.nil
  with_reducible apply At.next
  apply W.seq
  apply W.seq
  apply W.reg
  apply OL.op; exact Guard.none; rfl; rfl; apply Pev.load_keptA; rfl; exact yes; exact .tail _ (.head _); rfl; intro hcond; assumption; rfl; intro hcond; assumption; intro hcond; simp only [add_block]; refine NotOwned.blk (by omega) ?_; refine NotOwned.blk (by omega) ?_; refine NotOwned.blk (by omega) ?_; exact NotOwned.nil
  rename_i bT hbT bC hbC
  (((first | (with_reducible apply OL.op) | (with_reducible apply QL.op)); ((first | exact Guard.none | exact Guard.yes rfl rfl | exact Guard.no rfl rfl | exact Guard.cyes rfl rfl | exact Guard.cno rfl rfl)); rfl; rfl); (exact Pev.call rfl (by (repeat (first | exact Args.nil | (apply Args.cons rfl; ((first | exact fun _ => rfl | exact fun h => h | (intro h; simp_all; done))))))) (fun _ w3 hw3 => (Go.Proofs.YtaponemcbnnebaaDoor.uv.typeErr_calls p.t false (tcc p) w3 (hfac _ _ w3 (fun k hk => by (focus ((try simp only [add_block]); (repeat (first | exact NotOwned.nil | exact hno _ (by omega) | refine NotOwned.nothing ?_ | refine NotOwned.nds (hlow _ (by omega)) ?_ | refine NotOwned.mapS (by omega) ?_ | apply NotOwned.bif | refine NotOwned.blk (by omega) ?_ | refine NotOwned.row (by omega) ?_ | refine NotOwned.grid (by assumption) (by omega) ?_ | refine NotOwned.pile (by omega) ?_)); done))) (by (repeat (first | exact List.Mem.head _ | apply List.Mem.tail))) hw3).1).mono (fun e w3 h => ⟨h.1, hw3.ext h.2⟩))))
  apply obn; rfl; rfl; rfl; apply Bin.neq
  apply OL.nil
  with_reducible apply At.next
  (refine W.cond rfl (fun he => ?_) (fun he => ?_)) <;> (try (simp only [Bool.and_eq_true, Bool.or_eq_true, Bool.not_eq_true', Bool.and_eq_false_iff, Bool.or_eq_false_iff, Bool.not_eq_false', decide_eq_true_eq, decide_eq_false_iff_not, Int.not_lt, Int.not_le] at he)) <;> (try (exfalso; first | omega | exact he trivial | contradiction))
  · obtain ⟨e1, e2⟩ := hV.bad he
    apply W.seq
    apply W.reg
    apply omv; rfl; rfl
    apply obn; rfl; rfl; rfl; apply Bin.neq
    apply omv; rfl; rfl
    apply OL.op; exact Guard.yes rfl rfl; rfl; rfl; apply Pev.move; rfl; exact yes
    apply OL.op; exact Guard.yes rfl rfl; rfl; rfl; apply Pev.len_slice; rfl; exact fun h => h; rfl
    apply OL.op; exact Guard.yes rfl rfl; rfl; rfl; apply Pev.bin; rfl; exact fun h => h; rfl; exact yes; intro hcond; apply Bin.eql
    apply OL.op; exact Guard.none; rfl; rfl; apply Pev.pick_and; rfl; exact yes; rfl; exact fun h => h
    apply oas; rfl; rfl
    apply OL.nil
    with_reducible apply At.next
    apply W.ret
    with_reducible apply At.then_ret
    ((with_reducible apply At.fin1); rfl; rfl; intro w' hw')
    exact ⟨by simp [e1, e2], by (exact hw'.toExt (by (repeat (first | exact List.Mem.head _ | apply List.Mem.tail))) (fun k hk => by (focus ((try simp only [add_block]); (repeat (first | exact NotOwned.nil | exact hno _ (by omega) | refine NotOwned.nothing ?_ | refine NotOwned.nds (hlow _ (by omega)) ?_ | refine NotOwned.mapS (by omega) ?_ | apply NotOwned.bif | refine NotOwned.blk (by omega) ?_ | refine NotOwned.row (by omega) ?_ | refine NotOwned.grid (by assumption) (by omega) ?_ | refine NotOwned.pile (by omega) ?_)); done))))⟩
  apply W.skip
  with_reducible apply At.next
  apply W.seq
  apply W.seq
  apply W.reg
  apply OL.op; exact Guard.none; rfl; rfl; apply Pev.load_keptA; rfl; exact yes; exact .tail _ (.head _); rfl; intro hcond; assumption; rfl; intro hcond; assumption; intro hcond; simp only [add_block]; refine NotOwned.blk (by omega) ?_; refine NotOwned.blk (by omega) ?_; refine NotOwned.blk (by omega) ?_; exact NotOwned.nil
  (((first | (with_reducible apply OL.op) | (with_reducible apply QL.op)); ((first | exact Guard.none | exact Guard.yes rfl rfl | exact Guard.no rfl rfl | exact Guard.cyes rfl rfl | exact Guard.cno rfl rfl)); rfl; rfl); (exact Pev.call rfl (by (repeat (first | exact Args.nil | (apply Args.cons rfl; ((first | exact fun _ => rfl | exact fun h => h | (intro h; simp_all; done))))))) (fun _ w3 hw3 => (rowArg_calls _ p w3 (Nat.le_refl _) (hfac _ _ w3 (fun k hk => by (focus ((try simp only [add_block]); (repeat (first | exact NotOwned.nil | exact hno _ (by omega) | refine NotOwned.nothing ?_ | refine NotOwned.nds (hlow _ (by omega)) ?_ | refine NotOwned.mapS (by omega) ?_ | apply NotOwned.bif | refine NotOwned.blk (by omega) ?_ | refine NotOwned.row (by omega) ?_ | refine NotOwned.grid (by assumption) (by omega) ?_ | refine NotOwned.pile (by omega) ?_)); done))) (by (repeat (first | exact List.Mem.head _ | apply List.Mem.tail))) hw3).1).mono (fun e w3 h => ⟨h.1, hw3.ext h.2⟩))))
  apply omv; rfl; rfl
  apply OL.op; exact Guard.no rfl rfl; rfl; rfl; apply Pev.load_keptA; rfl; exact yes; exact .tail _ (.head _); rfl; intro hcond; assumption; rfl; intro hcond; assumption; intro hcond; simp only [add_block]; refine NotOwned.blk (by omega) ?_; refine NotOwned.blk (by omega) ?_; refine NotOwned.blk (by omega) ?_; exact NotOwned.nil
  (((first | (with_reducible apply OL.op) | (with_reducible apply QL.op)); ((first | exact Guard.none | exact Guard.yes rfl rfl | exact Guard.no rfl rfl | exact Guard.cyes rfl rfl | exact Guard.cno rfl rfl)); rfl; rfl); (exact Pev.call rfl (by (repeat (first | exact Args.nil | (apply Args.cons rfl; ((first | exact fun _ => rfl | exact fun h => h | (intro h; simp_all; done))))))) (fun _ w3 hw3 => (names_calls ⟨#[63]⟩ _ p w3 (Nat.le_refl _) (hfac _ _ w3 (fun k hk => by (focus ((try simp only [add_block]); (repeat (first | exact NotOwned.nil | exact hno _ (by omega) | refine NotOwned.nothing ?_ | refine NotOwned.nds (hlow _ (by omega)) ?_ | refine NotOwned.mapS (by omega) ?_ | apply NotOwned.bif | refine NotOwned.blk (by omega) ?_ | refine NotOwned.row (by omega) ?_ | refine NotOwned.grid (by assumption) (by omega) ?_ | refine NotOwned.pile (by omega) ?_)); done))) (by (repeat (first | exact List.Mem.head _ | apply List.Mem.tail))) hw3).1).mono (fun e w3 h => ⟨h.1, hw3.ext h.2⟩))))
  apply OL.op; exact Guard.none; rfl; rfl; apply Pev.pick_or; rfl; exact yes; rfl; exact fun h => h
  apply OL.nil
  with_reducible apply At.next
  refine W.cond rfl (fun hb => ?_) (fun hb => ?_)
  · apply W.seq
    apply W.reg
    apply oas; rfl; rfl
    apply OL.nil
    with_reducible apply At.next
    apply W.ret
    with_reducible apply At.then_ret
    ((with_reducible apply At.fin1); rfl; rfl; intro w' hw')
    exact ⟨rfl, by (exact hw'.toExt (by (repeat (first | exact List.Mem.head _ | apply List.Mem.tail))) (fun k hk => by (focus ((try simp only [add_block]); (repeat (first | exact NotOwned.nil | exact hno _ (by omega) | refine NotOwned.nothing ?_ | refine NotOwned.nds (hlow _ (by omega)) ?_ | refine NotOwned.mapS (by omega) ?_ | apply NotOwned.bif | refine NotOwned.blk (by omega) ?_ | refine NotOwned.row (by omega) ?_ | refine NotOwned.grid (by assumption) (by omega) ?_ | refine NotOwned.pile (by omega) ?_)); done))))⟩
  obtain ⟨hra, hnm⟩ : rowA p.t = false ∧ nmsT ⟨#[63]⟩ p.t = false := by simpa using hb
  have hne : (⟨#[80, 114, 101, 108, 117, 100, 101, 46, 73, 110, 116]⟩ : ByteArray) ≠ ⟨#[63]⟩ := by decide
  have hVA := vars_answer hV he hra
  apply W.skip
  with_reducible apply At.next
  apply W.seq
  apply W.reg
  apply omv; rfl; rfl
  have hkR := lD_kinds (pi := ⟨#[80, 114, 101, 108, 117, 100, 101, 46, 73, 110, 116]⟩) (qm := ⟨#[63]⟩) (cn := ⟨#[67]⟩) (n := n) (p := p) (qc := some ⟨bC, 0, none⟩) (qa := some ⟨bT, 0, none⟩) hne hnm
  have hKO : ∀ w3, Cls [blk bk 38 [.string ⟨#[80, 114, 101, 108, 117, 100, 101, 46, 73, 110, 116]⟩, .int .i64 0, .slice none 0 0, .string ⟨#[63]⟩, .int .i64 (n : Int), .slice (some ⟨bC, 0, none⟩) 1 1], blk bC 40 [.string ⟨#[67]⟩, .slice (some ⟨bT, 0, none⟩) 1 1], blk bT 24 [.int .i64 p.t.kind, .string p.t.name, .int .i64 p.t.var, .slice p.q p.t.args.length p.cap]] [w2, w1, w] w3 →
      Calls Tryd.prog 13 #[.slice (some ⟨bk, 0, none⟩) 2 2] w3 fun e w' => ∃ a : Option (Option Addr × Nat × List Sl), e = .returned (ansV a) ∧ (ansS a).map (fun l => l.map Sl.xs) = (if foundB n (okV [⟨#[80, 114, 101, 108, 117, 100, 101, 46, 73, 110, 116]⟩] n p.t) = [] then none else some [[], (List.range n).map (agree (foundB n (okV [⟨#[80, 114, 101, 108, 117, 100, 101, 46, 73, 110, 116]⟩] n p.t)))]).map (fun l => l.map ins) ∧ Ans w3 w' a := fun w3 hw3 => by
    have hb : bsum (dss (lD ⟨#[80, 114, 101, 108, 117, 100, 101, 46, 73, 110, 116]⟩ ⟨#[63]⟩ ⟨#[67]⟩ n p (some ⟨bC, 0, none⟩) (some ⟨bT, 0, none⟩))) (lD ⟨#[80, 114, 101, 108, 117, 100, 101, 46, 73, 110, 116]⟩ ⟨#[63]⟩ ⟨#[67]⟩ n p (some ⟨bC, 0, none⟩) (some ⟨bT, 0, none⟩)).length = n := lD_bsum
    have hk := KindsOf_calls (some ⟨bk, 0, none⟩) 2 (lD ⟨#[80, 114, 101, 108, 117, 100, 101, 46, 73, 110, 116]⟩ ⟨#[63]⟩ ⟨#[67]⟩ n p (some ⟨bC, 0, none⟩) (some ⟨bT, 0, none⟩)) w3 (by simp [lD]) (by simp [lD]) (by omega) (by simp [lD]) (fun d hd c hc a ha => by
      simp only [lD, List.mem_cons, List.not_mem_nil, or_false] at hd
      rcases hd with rfl | rfl
      · cases hc
      · simp only [List.mem_cons, List.not_mem_nil, or_false] at hc
        subst hc
        simp only [List.mem_cons, List.not_mem_nil, or_false] at ha
        subst ha
        exact ⟨false, wf_of _ false 1 0 he hra (.inl (kind_le he))⟩) ⟨SlAt.of_blk (o := 0) (hw3.item (.head _)) (fun j v hj => by rw [Nat.zero_add]; exact hj), fun d hd => by
      simp only [lD, List.mem_cons, List.not_mem_nil, or_false] at hd
      rcases hd with rfl | rfl
      · exact SlAt.nil
      · exact SlAt.of_blk (o := 0) (hw3.item (.tail _ (.head _))) (fun j v hj => by rw [Nat.zero_add]; exact hj), fun d hd c hc => by
      simp only [lD, List.mem_cons, List.not_mem_nil, or_false] at hd
      rcases hd with rfl | rfl
      · cases hc
      · simp only [List.mem_cons, List.not_mem_nil, or_false] at hc
        subst hc
        exact SlAt.of_blk (o := 0) (hw3.item (.tail _ (.tail _ (.head _)))) (fun j v hj => by rw [Nat.zero_add]; exact hj), fun d hd c hc a ha => by
      simp only [lD, List.mem_cons, List.not_mem_nil, or_false] at hd
      rcases hd with rfl | rfl
      · cases hc
      · simp only [List.mem_cons, List.not_mem_nil, or_false] at hc
        subst hc
        simp only [List.mem_cons, List.not_mem_nil, or_false] at ha
        subst ha
        exact (hfac _ _ w3 (fun k hk => by (focus ((try simp only [add_block]); (repeat (first | exact NotOwned.nil | exact hno _ (by omega) | refine NotOwned.nothing ?_ | refine NotOwned.nds (hlow _ (by omega)) ?_ | refine NotOwned.mapS (by omega) ?_ | apply NotOwned.bif | refine NotOwned.blk (by omega) ?_ | refine NotOwned.row (by omega) ?_ | refine NotOwned.grid (by assumption) (by omega) ?_ | refine NotOwned.pile (by omega) ?_)); done))) (by (repeat (first | exact List.Mem.head _ | apply List.Mem.tail))) hw3).1⟩
    rw [hb, hkR] at hk
    exact hk
  by_cases hfn : foundB n (okV [⟨#[80, 114, 101, 108, 117, 100, 101, 46, 73, 110, 116]⟩] n p.t) = []
  · obtain ⟨e1, e2⟩ := hVA.1 hfn
    (((first | (with_reducible apply OL.op) | (with_reducible apply QL.op)); ((first | exact Guard.none | exact Guard.yes rfl rfl | exact Guard.no rfl rfl | exact Guard.cyes rfl rfl | exact Guard.cno rfl rfl)); rfl; rfl); (exact Pev.call (v := .tuple #[.slice none 0 0, .bool false]) rfl (by (repeat (first | exact Args.nil | (apply Args.cons rfl; ((first | exact fun _ => rfl | exact fun h => h | (intro h; simp_all; done))))))) (fun _ w3 hw3 => (hKO w3 hw3).mono (fun e w4 ⟨a, h1, h2, h3⟩ => by
      rw [if_pos hfn] at h2
      cases a with
      | none => exact ⟨h1, hw3.ext h3.ext⟩
      | some x => simp [ansS] at h2))))
    apply omv; rfl; rfl
    apply oex; rfl; rfl; rfl
    apply oex; rfl; rfl; rfl
    apply oas; rfl; rfl
    apply oas; rfl; rfl
    apply OL.nil
    with_reducible apply At.next
    apply W.seq
    apply W.seq
    apply W.reg
    apply omv; rfl; rfl
    apply OL.op; exact Guard.none; rfl; rfl; apply Pev.not; rfl; exact yes
    apply OL.nil
    with_reducible apply At.next
    refine W.cond rfl (fun _ => ?_) (fun hb => by simp at hb)
    apply W.seq
    apply W.reg
    apply omv; rfl; rfl
    apply obn; rfl; rfl; rfl; apply Bin.neq
    apply omv; rfl; rfl
    apply OL.op; exact Guard.yes rfl rfl; rfl; rfl; apply Pev.move; rfl; exact yes
    apply OL.op; exact Guard.yes rfl rfl; rfl; rfl; apply Pev.len_slice; rfl; exact fun h => h; rfl
    apply OL.op; exact Guard.yes rfl rfl; rfl; rfl; apply Pev.bin; rfl; exact fun h => h; rfl; exact yes; intro hcond; apply Bin.eql
    apply OL.op; exact Guard.none; rfl; rfl; apply Pev.pick_and; rfl; exact yes; rfl; exact fun h => h
    apply oas; rfl; rfl
    apply OL.nil
    with_reducible apply At.next
    apply W.ret
    with_reducible apply At.then_ret
    ((with_reducible apply At.fin1); rfl; rfl; intro w' hw')
    exact ⟨by simp [e1, e2], by (exact hw'.toExt (by (repeat (first | exact List.Mem.head _ | apply List.Mem.tail))) (fun k hk => by (focus ((try simp only [add_block]); (repeat (first | exact NotOwned.nil | exact hno _ (by omega) | refine NotOwned.nothing ?_ | refine NotOwned.nds (hlow _ (by omega)) ?_ | refine NotOwned.mapS (by omega) ?_ | apply NotOwned.bif | refine NotOwned.blk (by omega) ?_ | refine NotOwned.row (by omega) ?_ | refine NotOwned.grid (by assumption) (by omega) ?_ | refine NotOwned.pile (by omega) ?_)); done))))⟩
  · obtain ⟨e1, e2⟩ := hVA.2 hfn
    generalize hZ : (List.range n).map (agree (foundB n (okV [⟨#[80, 114, 101, 108, 117, 100, 101, 46, 73, 110, 116]⟩] n p.t))) = Z at hKO e2
    subst e1 e2
    have hxl : xs.length = n := by rw [← hZ]; simp
    refine OL.callE (α := World × Option Addr × Nat × Sl × Sl) (fun x => .tuple #[.slice x.2.1 2 x.2.2.1, .bool true]) (fun x => w2.heap.size ≤ x.1.heap.size ∧ SlAt x.1 x.1.heap.size x.2.1 [slv x.2.2.2.1, slv x.2.2.2.2] ∧ SlAt x.1 x.1.heap.size x.2.2.2.2.q (ins xs) ∧ x.2.2.2.2.xs = ins xs) (fun x => Cls [] [x.1, w2, w1, w]) rfl rfl (by (repeat (first | exact Args.nil | (apply Args.cons rfl; ((first | exact fun _ => rfl | exact fun h => h | (intro h; simp_all; done))))))) (fun w3 hw3 => ?_) ?_
    · refine (hKO w3 hw3).mono (fun e w4 ⟨a, h1, h2, h3⟩ => ?_)
      rw [if_neg hfn] at h2
      cases a with
      | none => simp [ansS] at h2
      | some x =>
        obtain ⟨q, c, rows⟩ := x
        have h5 : rows.map Sl.xs = [ins [], ins xs] := by simpa [ansS] using h2
        obtain ⟨s0, s1, rfl⟩ := list2 (l := rows) (by have := congrArg List.length h5; simpa using this)
        simp only [List.map_cons, List.map_nil, List.cons.injEq, and_true] at h5
        exact ⟨(w4, q, c, s0, s1), h1, ⟨Nat.le_trans (hw3.kp w2 (.head _)).size h3.ext.size, h3.sl q c _ rfl, by rw [← h5.2]; exact h3.el q c _ rfl s1 (by simp), h5.2⟩, ((hw3.ext h3.ext).thin (by (repeat (first | exact Thin.nil | exact Thin.same | apply Thin.keep | (refine Thin.blk (by assumption) ?_) | (refine Thin.blk (by simp only [AllLe, and_true]; omega) ?_))))).note⟩
    rintro ⟨w4, q4, c4, s0, s1⟩ ⟨hsz4, hq4, hs4, hx4⟩
    simp only at hsz4 hq4 hs4 hx4 ⊢
    obtain ⟨a4, rfl, hab4, hc4⟩ := hq4 (by simp)
    have hcell : w4.cell? (a4.add (1 * 1)) = some (.slice s1.q xs.length s1.cap) := by
      have h1 := hc4 1 (slv s1) rfl
      rw [slv, hx4, ins_length] at h1
      exact h1
    apply omv; rfl; rfl
    apply oex; rfl; rfl; rfl
    apply oex; rfl; rfl; rfl
    apply oas; rfl; rfl
    apply oas; rfl; rfl
    apply OL.nil
    with_reducible apply At.next
    apply W.seq
    apply W.seq
    apply W.reg
    apply omv; rfl; rfl
    apply OL.op; exact Guard.none; rfl; rfl; apply Pev.not; rfl; exact yes
    apply OL.nil
    with_reducible apply At.next
    refine W.cond rfl (fun hb => by simp at hb) (fun _ => ?_)
    apply W.skip
    with_reducible apply At.next
    apply W.seq
    apply W.reg
    apply omv; rfl; rfl
    apply obn; rfl; rfl; rfl; apply Bin.eql
    apply omv; rfl; rfl
    apply OL.op; exact Guard.yes rfl rfl; rfl; rfl; apply Pev.move; rfl; exact yes
    apply OL.op; exact Guard.yes rfl rfl; rfl; rfl; apply Pev.move; rfl; exact yes
    apply OL.op; exact Guard.yes rfl rfl; rfl; rfl; apply Pev.idx; rfl; exact yes; rfl; exact yes; rfl; rfl; intro hcond; (simp only [Bool.and_eq_true, Bool.or_eq_true, Bool.not_eq_true', decide_eq_true_eq, decide_eq_false_iff_not] at *; omega)
    apply OL.op; exact Guard.yes rfl rfl; rfl; rfl; apply Pev.load_kept; rfl; exact yes; exact .head _; rfl; intro hcond; assumption; intro hcond; assumption; intro hcond; exact NotOwned.nil
    (((first | (with_reducible apply OL.op) | (with_reducible apply QL.op)); ((first | exact Guard.none | exact Guard.yes rfl rfl | exact Guard.no rfl rfl | exact Guard.cyes rfl rfl | exact Guard.cno rfl rfl)); rfl; rfl); (exact Pev.call (v := .bool true) rfl (by (repeat (first | exact Args.nil | (apply Args.cons rfl; ((first | exact fun _ => rfl | exact fun h => h | (intro h; simp_all; done))))))) (fun _ w5 hw5 => (IEqual_calls a2 s1.q c2 s1.cap xs xs w5 (by omega) (by omega) (hx2.keep (hw5.below (s := w2) (by (repeat (first | exact List.Mem.head _ | apply List.Mem.tail))) (Nat.le_refl _) (fun k hk => by (focus ((try simp only [add_block]); (repeat (first | exact NotOwned.nil | exact hno _ (by omega) | refine NotOwned.nothing ?_ | refine NotOwned.nds (hlow _ (by omega)) ?_ | refine NotOwned.mapS (by omega) ?_ | apply NotOwned.bif | refine NotOwned.blk (by omega) ?_ | refine NotOwned.row (by omega) ?_ | refine NotOwned.grid (by assumption) (by omega) ?_ | refine NotOwned.pile (by omega) ?_)); done)))) (hw5.kp w2 (by (repeat (first | exact List.Mem.head _ | apply List.Mem.tail)))).size) (hs4.keep (hw5.below (s := w4) (by (repeat (first | exact List.Mem.head _ | apply List.Mem.tail))) (Nat.le_refl _) (fun k hk => by (focus ((try simp only [add_block]); (repeat (first | exact NotOwned.nil | exact hno _ (by omega) | refine NotOwned.nothing ?_ | refine NotOwned.nds (hlow _ (by omega)) ?_ | refine NotOwned.mapS (by omega) ?_ | apply NotOwned.bif | refine NotOwned.blk (by omega) ?_ | refine NotOwned.row (by omega) ?_ | refine NotOwned.grid (by assumption) (by omega) ?_ | refine NotOwned.pile (by omega) ?_)); done)))) (hw5.kp w4 (by (repeat (first | exact List.Mem.head _ | apply List.Mem.tail)))).size)).mono (fun e w6 h => ⟨by rw [h.1]; simp, hw5.ext h.2⟩))))
    apply OL.op; exact Guard.none; rfl; rfl; apply Pev.pick_and; rfl; exact yes; rfl; exact yes
    apply oas; rfl; rfl
    apply OL.nil
    with_reducible apply At.next
    apply W.ret
    ((with_reducible apply At.fin1); rfl; rfl; intro w' hw')
    exact ⟨by simp, by (exact hw'.toExt (by (repeat (first | exact List.Mem.head _ | apply List.Mem.tail))) (fun k hk => by (focus ((try simp only [add_block]); (repeat (first | exact NotOwned.nil | exact hno _ (by omega) | refine NotOwned.nothing ?_ | refine NotOwned.nds (hlow _ (by omega)) ?_ | refine NotOwned.mapS (by omega) ?_ | apply NotOwned.bif | refine NotOwned.blk (by omega) ?_ | refine NotOwned.row (by omega) ?_ | refine NotOwned.grid (by assumption) (by omega) ?_ | refine NotOwned.pile (by omega) ?_)); done))))⟩
end Go.Proofs.YtaponemcbnnebaaDoor.ki
