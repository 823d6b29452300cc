/- Texts of the proof of PatternsRedundant, part 4: rules of a calculus for walking, plain laws, and walks of the functions that the law reaches. No condition. -/
import Derived.SizedLaws
import Derived.Test.YtleggdmhihcafaaProg
import Derived.Test.YtleggdmhihcafaaPatternsRedundant3
set_option linter.unusedVariables false
set_option linter.unusedSimpArgs false
set_option linter.unusedSectionVars false
/- The walk of patterns' useful. Conditions: none. -/
namespace Go.Proofs.Ytleggdmhihcafaa.pt
open Go.RowKit Go.Eng Go.Pt
set_option maxRecDepth 100000
theorem leftI_step {rs : List (List Ty × PY)} {i : Nat} {p : Ty} {t : List Ty} {y : PY} (n : Int) (h : rs[i]? = some (p :: t, y)) : leftI ((rs.take (i + 1)).map Prod.fst) n = leftI ((rs.take i).map Prod.fst) n ++ if (free p || decide (p.var = n)) then [t] else [] := by
 rw [List.take_add_one, h]
 unfold leftI
 simp only [Option.toList_some, List.map_append, List.filterMap_append, List.map_cons, List.map_nil]
 by_cases hf : (free p || decide (p.var = n)) = true
 ·simp only [List.filterMap_cons, List.filterMap_nil, hf, if_true]
 ·simp only [List.filterMap_cons, List.filterMap_nil, hf, if_false, Bool.false_eq_true]
theorem useful_calls (T : TT) : ∀ (f : Nat) (q : Option Addr) (cap : Nat) (rs : List (List Ty × PY)) (qr : Option Addr) (capr : Nat) (ps : List (Ty × PY)) (w : World), T.ok w → rs.length ≤ 100000 → Arr patsR w (low w) rs q → Arr tyR w (low w) ps qr → ps.length ≤ capr → Mat T.D (ps.map Prod.fst :: rs.map Prod.fst) ps.length → wtR (rs.map Prod.fst) + wtA (ps.map Prod.fst) + ps.length < f → wtR (rs.map Prod.fst) + wtA (ps.map Prod.fst) + ps.length ≤ 100000 →
  Calls Try.prog 24 [T.v, .slice q rs.length cap, .slice qr ps.length capr].toArray w fun e w' => e = .returned (.bool (usefulE T.D f (rs.map Prod.fst) (ps.map Prod.fst))) ∧ Ext w w'
 | 0, q, cap, rs, qr, capr, ps, w, hT, hlen, h, hr, hcr, hM, hf, hB => by omega
 | f + 1, q, cap, rs, qr, capr, [], w, hT, hlen, h, hr, hcr, hM, hf, hB => by
  refine enter Try.func24 rfl Try.ntmps24 rfl (Cls.start w) ?_
  unfold TT.v
  (simp only [argEnv, Nat.zero_add, Nat.reduceAdd])
  apply W.sr
  apply OL.box; rfl; rfl; exact CellsL.agg; (intro bk hbk; simp only [AllLe, and_true] at hbk)
  apply oas; rfl; rfl
  apply OL.nx
  apply W.seq
  apply W.sr
  apply omv; rfl; rfl
  apply oop; rfl; apply Pev.len_slice; rfl; exact yes; rfl
  apply obn; rfl; rfl; rfl; apply Bin.eql
  apply OL.nx
  refine W.cond rfl (fun _ => ?_) (fun hb => by simp at hb)
  apply W.sr
  apply omv; rfl; rfl
  apply oop; rfl; apply Pev.len_slice; rfl; exact yes; rfl
  apply obn; rfl; rfl; rfl; apply Bin.eql
  apply oas; rfl; rfl
  apply OL.nx
  refine W.rt ?_
  ((with_reducible apply At.fin1); rfl; rfl; intro w' hw')
  exact ⟨by simp [usefulE], by (exact hw'.fr)⟩
 | f + 1, q, cap, rs, qr, capr, z :: pt, w, hT, hlen, h, hr, hcr, hM, hf, hB => by
  have ih := useful_calls T f
  obtain ⟨rows, hrows⟩ : ∃ rows, rs.map Prod.fst = rows := ⟨_, rfl⟩
  obtain ⟨trow, hrow⟩ : ∃ trow, pt.map Prod.fst = trow := ⟨_, rfl⟩
  have hrowl : trow.length = pt.length := by rw [← hrow, List.length_map]
  rw [List.map_cons, hrows, hrow] at hM hf hB ⊢
  have hM1 : Mat T.D ((z.1 :: trow) :: rows) (trow.length + 1) := by rw [hrowl]; exact hM
  have hMr : Mat T.D rows (trow.length + 1) := hM1.mono (fun r hr => .tail _ hr)
  have hne : ∀ r ∈ rs, r.1 ≠ [] := Mat.ne (by rw [hrows]; exact hMr)
  have hwp : Wf T.D z.1 := hM1.wf _ (.head _) z.1 (.head _)
  rw [List.length_cons] at hf hB
  simp only [wtA] at hf hB
  have hnsz : ∀ nm, ∀ r ∈ rs, ∀ p t, r.1 = p :: t → t.length ≤ 10000000 ∧ (free p = false → p.name = nm → p.args.length ≤ 10000000) := fun nm r hr p t he => by
   obtain ⟨g1, g2⟩ := narrow_sz (rs := rs) (cols := trow.length) (B := 100000) (by rw [hrows]; exact hMr) (by rw [hrows]; omega) nm r hr p t he
   exact ⟨by omega, fun a b => by have := g2 a b; omega⟩
  obtain ⟨ar, z2, hqr, habr, hz2, hcellr, hokr⟩ := hr.get (i := 0) (Nat.succ_pos _)
  simp only [List.getElem?_cons_zero, Option.some.injEq] at hz2
  subst hz2
  have habr : ar.block < w.heap.size := habr
  have hcellr : CellsAt w (ar.add (0 * 4)) [.int .i64 z.1.kind, .string z.1.name, .int .i64 z.1.var, .slice z.2.1 z.1.args.length z.2.2] := hcellr
  rw [hqr] at hr ⊢
  have hdrop := Arr.drop hr (cap := capr) hcr 1
  obtain ⟨pz, hpz, hpza, hpzl, _⟩ := pat_kids hokr
  have hpzl2 : pz.length = z.1.args.length := by rw [← hpz, List.length_map]
  rw [show (z :: pt).length = pt.length + 1 from rfl] at hcr ⊢
  refine enter Try.func24 rfl Try.ntmps24 rfl (Cls.start w) ?_
  unfold TT.v
  (simp only [argEnv, Nat.zero_add, Nat.reduceAdd])
  apply W.sr
  apply OL.box; rfl; rfl; exact CellsL.agg; (intro bk hbk; simp only [AllLe, and_true] at hbk)
  apply oas; rfl; rfl
  apply OL.nx
  apply W.seq
  apply W.sr
  apply omv; rfl; rfl
  apply oop; rfl; apply Pev.len_slice; rfl; exact yes; rfl
  apply obn; rfl; rfl; rfl; apply Bin.eql
  apply OL.nx
  revert bk
  intro b0 hb0
  refine W.cond rfl (fun hb => by simp at hb; omega) (fun _ => ?_)
  rw [usefulE]
  apply W.sk
  apply W.seq
  apply W.sr
  apply omv; rfl; rfl
  apply oop; rfl; apply Pev.idx; rfl; exact yes; rfl; exact yes; rfl; rfl; intro hcond; (simp only [Bool.and_eq_true, Bool.or_eq_true, Bool.not_eq_true', decide_eq_true_eq, decide_eq_false_iff_not] at *; omega)
  apply oop; rfl; apply Pev.fldA; rfl; exact yes; rfl
  apply oop; rfl; apply Pev.load_kept; rfl; exact yes; exact .head _; rfl; intro hcond; apply CellsAt.at_ (by assumption) rfl; intro hcond; assumption; intro hcond; exact NotOwned.au
  apply OL.nx
  apply W.block
  apply W.sr
  apply obn; rfl; rfl; rfl; apply Bin.eql
  apply oas; rfl; rfl
  apply OL.nx
  (refine W.cnd (fun hk3 => ?_) (fun hk3 => ?_)) <;> (try (exfalso; first | omega | exact hk3 trivial | contradiction))
  ·rw [if_pos hk3]
   obtain ⟨d, c, e1, e2, e3⟩ := hwp.cons hk3
   obtain ⟨ix, hmg⟩ := hT.tab.con e1
   have hH0 : ∀ k, k < w.heap.size → NotOwned [blk b0 55 [.slice T.q T.ds.length T.c, .map (some T.b)]] k := fun k hk => NotOwned.blk (by omega) .nil
   have hmo : manyOf T.D z.1.name = c.many := by unfold manyOf; rw [e1]
   rw [hmo]
   have hMw := use_con hT.uniq hM1 hk3 e1
   have hwa := wt_args (p := z.1) (free_no (.inr hk3))
   apply W.seq
   apply W.regd0; decide +kernel; kernel_rfl; decide +kernel; exact fun w hw => hw.drew
   apply qfa; rfl; rfl; rfl
   apply qld; rfl; rfl; exact .head _; rfl; rfl
   apply qmv; rfl; rfl
   apply qop; rfl; apply Pev.idx; rfl; exact yes; rfl; exact yes; rfl; rfl; intro hcond; (simp only [Bool.and_eq_true, Bool.or_eq_true, Bool.not_eq_true', decide_eq_true_eq, decide_eq_false_iff_not] at *; omega)
   apply qop; rfl; apply Pev.fldA; rfl; exact yes; rfl
   apply qop; rfl; apply Pev.load_kept; rfl; exact yes; exact .head _; rfl; intro hcond; apply CellsAt.at_ (by assumption) rfl; intro hcond; assumption; intro hcond; exact NotOwned.au
   (((first | (with_reducible apply OL.op) | (with_reducible apply QL.op)); (exact Guard.au); rfl; rfl); (refine Pev.lookup_v (m := T.m) (v := .agg #[.int .i64 (d : Int), .int .i64 ix, .int .i64 (c.many : Int)]) (zv := .agg #[.int .i64 0, .int .i64 0, .int .i64 0]) rfl (by (first | exact fun _ => rfl | exact fun h => h | (intro h; simp_all; done))) rfl (by (first | exact fun _ => rfl | exact fun h => h | (intro h; simp_all; done))) rfl rfl (fun w2 hw2 => (hT.at hw2 (by exact mau) hH0).map_) (by rw [hmg]; rfl)))
   apply qop; rfl; apply Pev.field; rfl; exact yes; rfl; rfl
   apply qas; rfl; rfl
   apply QL.nil
   with_reducible apply At.next
   apply W.seq
   refine W.regp (.fk 7 (.ef 14 (.ef 15 (.ef 16 (.ef 17 .nil)))) 14 (.ef 7 (.ef 15 (.ef 16 (.ef 17 .nil))))) (by (repeat (first | exact ZSplit.nil | apply ZSplit.pure rfl | apply ZSplit.tail))) (by kernel_rfl) (by decide +kernel) (fun w hw => hw.drew) (fun hyy => ?_)
   apply ZL.ld rfl; exact Guard.none; rfl; rfl; apply Pev.load_blkA; rfl; exact yes; exact .head _; rfl; exact Take.au
   apply ZL.op rfl; exact Guard.none; rfl; rfl; apply Pev.move; rfl; exact yes
   apply ZL.op rfl; exact Guard.none; rfl; rfl; apply Pev.move; rfl; exact yes
   apply ZL.op rfl; exact Guard.none; rfl; rfl; apply Pev.idx; rfl; exact yes; rfl; exact yes; rfl; rfl; intro hcond; (simp only [Bool.and_eq_true, Bool.or_eq_true, Bool.not_eq_true', decide_eq_true_eq, decide_eq_false_iff_not] at *; omega)
   apply ZL.op rfl; exact Guard.none; rfl; rfl; apply Pev.fldA; rfl; exact yes; rfl
   apply ZL.ld rfl; exact Guard.none; rfl; rfl; apply Pev.load_kept; rfl; exact yes; exact .head _; rfl; intro hcond; apply CellsAt.at_ (by assumption) rfl; intro hcond; assumption; intro hcond; exact NotOwned.au
   apply ZL.op rfl; exact Guard.none; rfl; rfl; apply Pev.move; rfl; exact yes
   apply ZL.op rfl; exact Guard.none; rfl; rfl; apply Pev.move; rfl; exact yes
   apply ZL.op rfl; exact Guard.none; rfl; rfl; apply Pev.idx; rfl; exact yes; rfl; exact yes; rfl; rfl; intro hcond; (simp only [Bool.and_eq_true, Bool.or_eq_true, Bool.not_eq_true', decide_eq_true_eq, decide_eq_false_iff_not] at *; omega)
   apply ZL.op rfl; exact Guard.none; rfl; rfl; apply Pev.fldA; rfl; exact yes; rfl
   apply ZL.ld rfl; exact Guard.none; rfl; rfl; apply Pev.load_kept; rfl; exact yes; exact .head _; rfl; intro hcond; apply CellsAt.at_ (by assumption) rfl; intro hcond; assumption; intro hcond; exact NotOwned.au
   apply ZL.op rfl; exact Guard.none; rfl; rfl; apply Pev.move; rfl; exact yes
   apply ZL.op rfl; exact Guard.none; rfl; rfl; apply Pev.slice_lo; rfl; exact yes; rfl; exact yes; rfl; rfl; intro hcond; (simp only [Bool.and_eq_true, Bool.or_eq_true, Bool.not_eq_true', decide_eq_true_eq, decide_eq_false_iff_not] at *; omega)
   apply ZL.nilN
   refine TN.fk hyy rfl rfl ?_ ?_
   ·refine OL.callE (α := GE × (Nat → Prop) × Nat) (fun gz => .slice gz.1.q gz.1.ps.length gz.1.c) (fun gz => gz.1.ps.map (fun r => r.1.map Prod.fst) = narrow rows z.1.name c.many ∧ gz.1.ps.length ≤ 100000 ∧ w.heap.size ≤ gz.2.2) (fun gz => Cls [row gz.2.2 gz.1.O gz.1.q gz.1.ps.length gz.1.c 25 1 (cat (patsE (fun p => TyO w (low w) p.1 p.2)).c gz.1.ps), pool (patsE (fun p => TyO w (low w) p.1 p.2)) gz.2.2 gz.2.1 gz.1.ps, blk b0 55 [.slice T.q T.ds.length T.c, .map (some T.b)]] [w]) rfl rfl (by exact Args.au) (fun w2 hw2 => ?_) ?_
    ·refine (narrow_calls q cap rs z.1.name c.many w w2 (hw2.toExt (.head _) (fun k hk => hH0 k hk)) (by omega) h hne (by omega) (hnsz z.1.name)).mono ?_
     rintro e w3 ⟨g, O2, h1, h2, h3, h4⟩
     rw [hrows] at h2
     refine ⟨(g, O2, w2.heap.size), h1, ⟨h2, by simp only; omega, (hw2.kp w (.head _)).size⟩, hw2.over (h4.forget (fun s hs => by rw [List.mem_singleton] at hs; rw [hs]; exact .head _)) (fun i hi k hk => ?_)⟩
     rcases List.mem_cons.1 hi with rfl | hi
     ·exact hk.1
     ·rw [List.mem_singleton] at hi
      subst hi
      exact hk.1
    rintro ⟨⟨On, qn, cn, pn⟩, On2, lo3⟩ ⟨hpn, hpnl, hlo3⟩
    simp only at hpn hpnl hlo3 ⊢
    apply OL.nil
    refine At.tkn (fun w9 hw9 => hw9.thin (.any (fun k hk => ⟨Nat.le_trans hlo3 hk.1, trivial⟩) (.any (fun k hk => ⟨Nat.le_trans hlo3 hk.1, trivial⟩) Thin.same))) ?_
    apply TN.ef (by assumption) rfl
    apply OL.buildSlice; rfl; rfl; rfl; exact Elems.au; rfl; rfl; (intro bk hbk; simp only [AllLe, and_true] at hbk)
    apply OL.nil
    revert bk
    intro bL hbL
    refine At.tkn (fun w9 hw9 => hw9.thin (.blk (by simp only [AllLe, and_true]; omega) (.any (fun k hk => ⟨Nat.le_trans hlo3 hk.1, trivial⟩) (.any (fun k hk => ⟨Nat.le_trans hlo3 hk.1, trivial⟩) Thin.same)))) ?_
    apply TN.ef (by assumption) rfl
    refine OL.callE (α := PY × Nat × Nat) (fun gz => .slice gz.1.1 (z.1.args.length + (pt.length + 1 - 1)) gz.1.2) (fun gz => z.1.args.length + (pt.length + 1 - 1) ≤ gz.1.2 ∧ w.heap.size ≤ gz.2.1) (fun gz => Cls [pile gz.2.1 (fun k => k < gz.2.2) [⟨gz.1.1, gz.1.2, cat tyR.c (pz ++ pt)⟩], blk bL 25 [.slice z.2.1 z.1.args.length z.2.2, .slice (cutq (some ar) capr 1 4) (pt.length + 1 - 1) (capr - 1)], row lo3 On qn pn.length cn 25 1 (cat (patsE (fun p => TyO w (low w) p.1 p.2)).c pn), pool (patsE (fun p => TyO w (low w) p.1 p.2)) lo3 On2 pn, blk b0 55 [.slice T.q T.ds.length T.c, .map (some T.b)]] [w]) rfl rfl (by exact Args.au) (fun w2 hw2 => ?_) ?_
    ·have hno2 : ∀ k, k < w.heap.size → NotOwned [blk bL 25 [.slice z.2.1 z.1.args.length z.2.2, .slice (cutq (some ar) capr 1 4) (pt.length + 1 - 1) (capr - 1)], row lo3 On qn pn.length cn 25 1 (cat (patsE (fun p => TyO w (low w) p.1 p.2)).c pn), pool (patsE (fun p => TyO w (low w) p.1 p.2)) lo3 On2 pn, blk b0 55 [.slice T.q T.ds.length T.c, .map (some T.b)]] k := fun k hk => NotOwned.blk (by omega) (NotOwned.row (by omega) (NotOwned.pool (by omega) (hH0 k hk)))
     refine (Concat2_calls bL (z.1.args.length) (pt.length + 1 - 1) (pz) pt z.2.1 (cutq (some ar) capr 1 4) z.2.2 (capr - 1) w2 (hw2.item (.head _)) hpzl2 (by omega) (hpza.at hw2 (.head _) hno2) (hdrop.at hw2 (.head _) hno2) (by omega)).mono ?_
     rintro e w3 ⟨q5, c5, h1, h2, h3, h4⟩
     exact ⟨((q5, c5), w2.heap.size, w3.heap.size), h1, ⟨h2, (hw2.kp w (.head _)).size⟩, Cls.fra hw2 h4 h3⟩
    rintro ⟨y5, lo5, hi5⟩ ⟨hy5, hlo5⟩
    simp only at hy5 hlo5 ⊢
    apply OL.nil
    refine At.tkn (fun w9 hw9 => hw9.thin (.any (fun k hk => ⟨Nat.le_trans hlo5 hk.1, trivial⟩) (.blk (by simp only [AllLe, and_true]; omega) (.any (fun k hk => ⟨Nat.le_trans hlo3 hk.1, trivial⟩) (.any (fun k hk => ⟨Nat.le_trans hlo3 hk.1, trivial⟩) Thin.same))))) ?_
    apply TN.ef (by assumption) rfl
    (((first | (with_reducible apply OL.op) | (with_reducible apply QL.op)); (exact Guard.au); rfl; rfl); (refine Pev.call (v := .bool (usefulE T.D f (narrow rows z.1.name c.many) (z.1.args ++ trow))) rfl (by exact Args.au) (fun _ w2 hw2 => ?_)))
    ·have hno2 : ∀ k, k < w.heap.size → NotOwned [pile lo5 (fun k => k < hi5) [⟨y5.1, y5.2, cat tyR.c (pz ++ pt)⟩], blk bL 25 [.slice z.2.1 z.1.args.length z.2.2, .slice (cutq (some ar) capr 1 4) (pt.length + 1 - 1) (capr - 1)], row lo3 On qn pn.length cn 25 1 (cat (patsE (fun p => TyO w (low w) p.1 p.2)).c pn), pool (patsE (fun p => TyO w (low w) p.1 p.2)) lo3 On2 pn, blk b0 55 [.slice T.q T.ds.length T.c, .map (some T.b)]] k := fun k hk => NotOwned.pile (by omega) (NotOwned.blk (by omega) (NotOwned.row (by omega) (NotOwned.pool (by omega) (hH0 k hk))))
     have harr := pool_arr hw2 (.tail _ (.tail _ (.head _))) (.tail _ (.tail _ (.tail _ (.head _)))) (hw2.toExt (.head _) hno2)
     have hmap : (pn.map fun r => (r.1.map Prod.fst, r.2)).map Prod.fst = narrow rows z.1.name c.many := by rw [List.map_map, ← hpn]; rfl
     have hrw : (pz ++ pt).map Prod.fst = z.1.args ++ trow := by rw [List.map_append, hrow, hpz]
     have hrl : (pz ++ pt).length = z.1.args.length + (pt.length + 1 - 1) := by rw [List.length_append, Nat.add_sub_cancel, hpzl2]
     have hrl2 : (z.1.args ++ trow).length = z.1.args.length + (pt.length + 1 - 1) := by rw [← hrw, List.length_map, hrl]
     have hpa : Arr tyR w2 (low w2) (pz ++ pt) y5.1 := pile_arr (hw2.item (.head _)) (fun p hp => Rel.at (R := tyR) ((List.mem_append.1 hp).elim (fun hp => hpza.el p hp) (fun hp => hr.el p (.tail _ hp))) hw2 (.head _) hno2)
     have hc := ih qn cn (pn.map fun r => (r.1.map Prod.fst, r.2)) y5.1 y5.2 (pz ++ pt) w2 (hT.at hw2 (.head _) hno2) (by rw [List.length_map]; exact hpnl) harr hpa (by rw [hrl]; exact hy5) (by rw [hmap, hrw, hrl, ← hrl2]; exact hMw.1) (by rw [hmap, hrw, hrl, ← hrl2]; have := hMw.2; omega) (by rw [hmap, hrw, hrl, ← hrl2]; have := hMw.2; omega)
     rw [hmap, hrw, List.length_map, hrl] at hc
     unfold TT.v at hc
     exact hc.mono (fun e w3 h => ⟨h.1, hw2.ext h.2⟩)
    apply OL.nil
    with_reducible apply At.tnn; decide +kernel
    apply TN.ef (by assumption) rfl
    apply oas; rfl; rfl
    apply OL.nil
    with_reducible apply At.tnn; decide +kernel
    apply TN.nil
    with_reducible apply At.np
    with_reducible apply At.next
    refine W.rt ?_
    ((with_reducible apply At.fin1); rfl; rfl; intro w' hw')
    exact ⟨rfl, hw'.toExt (s := w) (.head _) (fun k hk => NotOwned.pile (by omega) (NotOwned.blk (by omega) (NotOwned.row (by omega) (NotOwned.pool (by omega) (hH0 k hk)))))⟩
   ·apply OL.buildSlice; rfl; rfl; rfl; exact Elems.au; rfl; rfl; (intro bk hbk; simp only [AllLe, and_true] at hbk)
    apply OL.nil
    refine At.tkn (fun w hw => hw.thin ?_) ?_; exact Thin.au
    apply TN.ef (by assumption) rfl
    revert bk
    intro bL hbL
    refine OL.callE (α := GE × (Nat → Prop) × Nat) (fun gz => .slice gz.1.q gz.1.ps.length gz.1.c) (fun gz => gz.1.ps.map (fun r => r.1.map Prod.fst) = narrow rows z.1.name c.many ∧ gz.1.ps.length ≤ 100000 ∧ w.heap.size ≤ gz.2.2) (fun gz => Cls [row gz.2.2 gz.1.O gz.1.q gz.1.ps.length gz.1.c 25 1 (cat (patsE (fun p => TyO w (low w) p.1 p.2)).c gz.1.ps), pool (patsE (fun p => TyO w (low w) p.1 p.2)) gz.2.2 gz.2.1 gz.1.ps, blk bL 25 [.slice z.2.1 z.1.args.length z.2.2, .slice (cutq (some ar) capr 1 4) (pt.length + 1 - 1) (capr - 1)], blk b0 55 [.slice T.q T.ds.length T.c, .map (some T.b)]] [w]) rfl rfl (by exact Args.au) (fun w2 hw2 => ?_) ?_
    ·refine (narrow_calls q cap rs z.1.name c.many w w2 (hw2.toExt (.head _) (fun k hk => NotOwned.blk (by omega) (hH0 k hk))) (by omega) h hne (by omega) (hnsz z.1.name)).mono ?_
     rintro e w3 ⟨g, O2, h1, h2, h3, h4⟩
     rw [hrows] at h2
     refine ⟨(g, O2, w2.heap.size), h1, ⟨h2, by simp only; omega, (hw2.kp w (.head _)).size⟩, hw2.over (h4.forget (fun s hs => by rw [List.mem_singleton] at hs; rw [hs]; exact .head _)) (fun i hi k hk => ?_)⟩
     rcases List.mem_cons.1 hi with rfl | hi
     ·exact hk.1
     ·rw [List.mem_singleton] at hi
      subst hi
      exact hk.1
    rintro ⟨⟨On, qn, cn, pn⟩, On2, lo3⟩ ⟨hpn, hpnl, hlo3⟩
    simp only at hpn hpnl hlo3 ⊢
    apply OL.nil
    refine At.tkn (fun w9 hw9 => hw9.thin (.any (fun k hk => ⟨Nat.le_trans hlo3 hk.1, trivial⟩) (.any (fun k hk => ⟨Nat.le_trans hlo3 hk.1, trivial⟩) (.blk (by simp only [AllLe, and_true]; omega) Thin.same)))) ?_
    apply TN.ef (by assumption) rfl
    refine OL.callE (α := PY × Nat × Nat) (fun gz => .slice gz.1.1 (z.1.args.length + (pt.length + 1 - 1)) gz.1.2) (fun gz => z.1.args.length + (pt.length + 1 - 1) ≤ gz.1.2 ∧ w.heap.size ≤ gz.2.1) (fun gz => Cls [pile gz.2.1 (fun k => k < gz.2.2) [⟨gz.1.1, gz.1.2, cat tyR.c (pz ++ pt)⟩], row lo3 On qn pn.length cn 25 1 (cat (patsE (fun p => TyO w (low w) p.1 p.2)).c pn), pool (patsE (fun p => TyO w (low w) p.1 p.2)) lo3 On2 pn, blk bL 25 [.slice z.2.1 z.1.args.length z.2.2, .slice (cutq (some ar) capr 1 4) (pt.length + 1 - 1) (capr - 1)], blk b0 55 [.slice T.q T.ds.length T.c, .map (some T.b)]] [w]) rfl rfl (by exact Args.au) (fun w2 hw2 => ?_) ?_
    ·have hno2 : ∀ k, k < w.heap.size → NotOwned [row lo3 On qn pn.length cn 25 1 (cat (patsE (fun p => TyO w (low w) p.1 p.2)).c pn), pool (patsE (fun p => TyO w (low w) p.1 p.2)) lo3 On2 pn, blk bL 25 [.slice z.2.1 z.1.args.length z.2.2, .slice (cutq (some ar) capr 1 4) (pt.length + 1 - 1) (capr - 1)], blk b0 55 [.slice T.q T.ds.length T.c, .map (some T.b)]] k := fun k hk => NotOwned.row (by omega) (NotOwned.pool (by omega) (NotOwned.blk (by omega) (hH0 k hk)))
     refine (Concat2_calls bL (z.1.args.length) (pt.length + 1 - 1) (pz) pt z.2.1 (cutq (some ar) capr 1 4) z.2.2 (capr - 1) w2 (hw2.item (.tail _ (.tail _ (.head _)))) hpzl2 (by omega) (hpza.at hw2 (.head _) hno2) (hdrop.at hw2 (.head _) hno2) (by omega)).mono ?_
     rintro e w3 ⟨q5, c5, h1, h2, h3, h4⟩
     exact ⟨((q5, c5), w2.heap.size, w3.heap.size), h1, ⟨h2, (hw2.kp w (.head _)).size⟩, Cls.fra hw2 h4 h3⟩
    rintro ⟨y5, lo5, hi5⟩ ⟨hy5, hlo5⟩
    simp only at hy5 hlo5 ⊢
    apply OL.nil
    refine At.tkn (fun w9 hw9 => hw9.thin (.any (fun k hk => ⟨Nat.le_trans hlo5 hk.1, trivial⟩) (.any (fun k hk => ⟨Nat.le_trans hlo3 hk.1, trivial⟩) (.any (fun k hk => ⟨Nat.le_trans hlo3 hk.1, trivial⟩) (.blk (by simp only [AllLe, and_true]; omega) Thin.same))))) ?_
    apply TN.ef (by assumption) rfl
    (((first | (with_reducible apply OL.op) | (with_reducible apply QL.op)); (exact Guard.au); rfl; rfl); (refine Pev.call (v := .bool (usefulE T.D f (narrow rows z.1.name c.many) (z.1.args ++ trow))) rfl (by exact Args.au) (fun _ w2 hw2 => ?_)))
    ·have hno2 : ∀ k, k < w.heap.size → NotOwned [pile lo5 (fun k => k < hi5) [⟨y5.1, y5.2, cat tyR.c (pz ++ pt)⟩], row lo3 On qn pn.length cn 25 1 (cat (patsE (fun p => TyO w (low w) p.1 p.2)).c pn), pool (patsE (fun p => TyO w (low w) p.1 p.2)) lo3 On2 pn, blk bL 25 [.slice z.2.1 z.1.args.length z.2.2, .slice (cutq (some ar) capr 1 4) (pt.length + 1 - 1) (capr - 1)], blk b0 55 [.slice T.q T.ds.length T.c, .map (some T.b)]] k := fun k hk => NotOwned.pile (by omega) (NotOwned.row (by omega) (NotOwned.pool (by omega) (NotOwned.blk (by omega) (hH0 k hk))))
     have harr := pool_arr hw2 (.tail _ (.head _)) (.tail _ (.tail _ (.head _))) (hw2.toExt (.head _) hno2)
     have hmap : (pn.map fun r => (r.1.map Prod.fst, r.2)).map Prod.fst = narrow rows z.1.name c.many := by rw [List.map_map, ← hpn]; rfl
     have hrw : (pz ++ pt).map Prod.fst = z.1.args ++ trow := by rw [List.map_append, hrow, hpz]
     have hrl : (pz ++ pt).length = z.1.args.length + (pt.length + 1 - 1) := by rw [List.length_append, Nat.add_sub_cancel, hpzl2]
     have hrl2 : (z.1.args ++ trow).length = z.1.args.length + (pt.length + 1 - 1) := by rw [← hrw, List.length_map, hrl]
     have hpa : Arr tyR w2 (low w2) (pz ++ pt) y5.1 := pile_arr (hw2.item (.head _)) (fun p hp => Rel.at (R := tyR) ((List.mem_append.1 hp).elim (fun hp => hpza.el p hp) (fun hp => hr.el p (.tail _ hp))) hw2 (.head _) hno2)
     have hc := ih qn cn (pn.map fun r => (r.1.map Prod.fst, r.2)) y5.1 y5.2 (pz ++ pt) w2 (hT.at hw2 (.head _) hno2) (by rw [List.length_map]; exact hpnl) harr hpa (by rw [hrl]; exact hy5) (by rw [hmap, hrw, hrl, ← hrl2]; exact hMw.1) (by rw [hmap, hrw, hrl, ← hrl2]; have := hMw.2; omega) (by rw [hmap, hrw, hrl, ← hrl2]; have := hMw.2; omega)
     rw [hmap, hrw, List.length_map, hrl] at hc
     unfold TT.v at hc
     exact hc.mono (fun e w3 h => ⟨h.1, hw2.ext h.2⟩)
    apply OL.nil
    with_reducible apply At.tnn; decide +kernel
    apply TN.ef (by assumption) rfl
    apply oas; rfl; rfl
    apply OL.nil
    with_reducible apply At.tnn; decide +kernel
    apply TN.nil
    with_reducible apply At.np
    with_reducible apply At.next
    refine W.rt ?_
    ((with_reducible apply At.fin1); rfl; rfl; intro w' hw')
    exact ⟨rfl, hw'.toExt (s := w) (.head _) (fun k hk => NotOwned.pile (by omega) (NotOwned.row (by omega) (NotOwned.pool (by omega) (NotOwned.blk (by omega) (hH0 k hk)))))⟩
  rw [if_neg hk3]
  apply W.sr
  apply obn; rfl; rfl; rfl; apply Bin.eql
  apply oas; rfl; rfl
  apply OL.nx
  (refine W.cnd (fun hk2 => ?_) (fun hk2 => ?_)) <;> (try (exfalso; first | omega | exact hk2 trivial | contradiction))
  ·rw [if_pos hk2]
   have hMw := use_int hM1 z.1.var
   apply W.sr
   apply oas; rfl; rfl
   apply OL.nx
   apply W.seq
   apply W.sr
   apply omv; rfl; rfl
   apply oop; rfl; apply Pev.len_slice; rfl; exact yes; rfl
   apply omv; rfl; rfl
   apply OL.nx
   apply W.block
   refine W.loop (G := Nat × GL) (fun g => g.1 ≤ rs.length ∧ g.2.ps.map Prod.fst = leftI ((rs.take g.1).map Prod.fst) z.1.var ∧ g.2.ps.length ≤ g.1 ∧ ∀ p ∈ g.2.ps, patsR.ok w (low w) p.1 p.2) (fun g => rs.length - g.1)
    (fun g => [(2, true, .slice (some ar) (pt.length + 1) capr), (3, true, .pointer (some ⟨b0, 0, none⟩)), (8, true, .slice g.2.q g.2.ps.length g.2.c), (56, true, .slice q rs.length cap), (57, true, .int .i64 (rs.length : Int)), (58, true, .int .i64 (g.1 : Int))])
    (fun g => Cls [row w.heap.size g.2.O g.2.q g.2.ps.length g.2.c 25 1 (cat patsR.c g.2.ps), blk b0 55 [.slice T.q T.ds.length T.c, .map (some T.b)]] [w]) (0, ⟨fun _ => False, none, 0, []⟩) ⟨Nat.zero_le _, rfl, Nat.le_refl _, fun p hp => by cases hp⟩ (by exact Sub.au) (fun w' hw' => hw'.row_nil w.heap.size 25 1) ?_
   rintro ⟨i, O, q1, c1, ls⟩ ⟨hi, hps, hpl, hok⟩
   simp only at hi hps hpl hok ⊢
   apply W.sr
   apply obn; rfl; rfl; rfl; apply Bin.lss
   apply OL.nx
   apply W.seq
   (refine W.cnd (fun hlt => ?_) (fun hlt => ?_)) <;> (try (exfalso; first | omega | exact hlt trivial | contradiction))
   ·obtain ⟨a, a2, x, xt, y, rfl, hab, hu, hcell, hab2, hcell2, harr, hyc, hyl⟩ := row_head h (show i < rs.length by omega) hne
    have hstep := leftI_step z.1.var hu
    rw [← hps] at hstep
    obtain ⟨u, hu2⟩ : ∃ u : List Ty × PY, u = (xt.map Prod.fst, (cutq (some a2) y.2 1 4, y.2 - 1)) := ⟨_, rfl⟩
    have huok : patsR.ok w (low w) u.1 u.2 := by
     rw [hu2]
     refine ⟨⟨xt, rfl, ?_⟩, by rw [List.length_map]; show xt.length ≤ y.2 - 1; omega, by rw [List.length_map]; omega⟩
     have := Arr.drop harr (cap := y.2) (by simpa using hyc) 1
     exact this
    apply W.sk
    apply W.sb
    apply W.sr
    apply oop; rfl; apply Pev.idx; rfl; exact yes; rfl; exact yes; rfl; rfl; intro hcond; omega
    apply oop; rfl; apply Pev.load_kept; rfl; exact yes; exact .head _; rfl; intro hcond; assumption; intro hcond; (rw [add_block]; assumption); intro hcond; exact NotOwned.au
    apply oas; rfl; rfl
    apply OL.nx
    apply W.seq
    apply W.regd0; decide +kernel; kernel_rfl; decide +kernel; exact fun w hw => hw.drew
    apply qmv; rfl; rfl
    apply qop; rfl; apply Pev.idx; rfl; exact yes; rfl; exact yes; rfl; rfl; intro hcond; (simp only [Bool.and_eq_true, Bool.or_eq_true, Bool.not_eq_true', decide_eq_true_eq, decide_eq_false_iff_not] at *; omega)
    apply qop; rfl; apply Pev.load_keptA; rfl; exact yes; exact .head _; rfl; intro hcond; assumption; rfl; intro hcond; assumption; intro hcond; exact NotOwned.au
    (((first | (with_reducible apply OL.op) | (with_reducible apply QL.op)); (exact Guard.au); rfl; rfl); (exact Pev.call (v := .bool (free x.1)) rfl (by exact Args.au) (fun _ w2 hw2 => (free_calls x.1 x.2 w2).mono (fun e w3 h => ⟨h.1, hw2.ext h.2⟩))))
    apply qmv; rfl; rfl
    apply qno; rfl; rfl; rfl; apply Pev.move; rfl; exact yes
    apply qno; rfl; rfl; rfl; apply Pev.idx; rfl; exact fun h => h; rfl; exact yes; rfl; rfl; intro hcond; (simp only [Bool.and_eq_true, Bool.or_eq_true, Bool.not_eq_true', decide_eq_true_eq, decide_eq_false_iff_not] at *; omega)
    apply qno; rfl; rfl; rfl; apply Pev.fldA; rfl; exact fun h => h; rfl
    apply qno; rfl; rfl; rfl; apply Pev.load_kept; rfl; exact fun h => h; exact .head _; rfl; intro hcond; apply CellsAt.at_ (by assumption) rfl; intro hcond; assumption; intro hcond; exact NotOwned.au
    apply qno; rfl; rfl; rfl; apply Pev.move; rfl; exact yes
    apply qno; rfl; rfl; rfl; apply Pev.idx; rfl; exact fun h => h; rfl; exact yes; rfl; rfl; intro hcond; (simp only [Bool.and_eq_true, Bool.or_eq_true, Bool.not_eq_true', decide_eq_true_eq, decide_eq_false_iff_not] at *; omega)
    apply qno; rfl; rfl; rfl; apply Pev.fldA; rfl; exact fun h => h; rfl
    apply qno; rfl; rfl; rfl; apply Pev.load_kept; rfl; exact fun h => h; exact .head _; rfl; intro hcond; apply CellsAt.at_ (by assumption) rfl; intro hcond; assumption; intro hcond; exact NotOwned.au
    apply qno; rfl; rfl; rfl; apply Pev.bin; rfl; exact fun h => h; rfl; exact fun h => h; intro hcond; apply Bin.eql
    apply qop; rfl; apply Pev.pick_or; rfl; exact yes; rfl; exact fun h => h
    apply QL.nil
    with_reducible apply At.next
    refine W.cond rfl (fun hf => ?_) (fun hf => ?_)
    ·have e1 : ls.length + 1 = (ls ++ [u]).length := by simp
     have e2 : cat patsR.c ls ++ [Value.slice (cutq (some a2) y.2 1 4) (xt.length + 1 - 1) (y.2 - 1)] = cat patsR.c (ls ++ [u]) := by
      rw [cat_append, hu2]
      simp only [cat, List.append_nil]
      show _ = _ ++ [Value.slice (cutq (some a2) y.2 1 4) (List.map Prod.fst xt).length (y.2 - 1)]
      rw [List.length_map, Nat.add_sub_cancel]
     apply W.reg
     apply omv; rfl; rfl
     apply omv; rfl; rfl
     apply oop; rfl; apply Pev.slice_lo; rfl; exact yes; rfl; exact yes; rfl; rfl; intro hcond; (simp only [Bool.and_eq_true, Bool.or_eq_true, Bool.not_eq_true', decide_eq_true_eq, decide_eq_false_iff_not] at *; omega)
     apply OL.buildSlice; rfl; rfl; rfl; exact Elems.au; rfl; rfl; (intro bk hbk; simp only [AllLe, and_true] at hbk)
     apply OL.append; rfl; rfl; rfl; rfl; exact Hole.au; exact .head _; exact Take.au; rfl; rfl; exact ⟨_, .head _, Nat.le_refl _⟩; omega; intro O1 g1 cap1
     apply oas; rfl; rfl
     apply OL.nil
     with_reducible apply At.in_normal
     with_reducible apply At.next
     apply W.reg
     apply obn; rfl; rfl; rfl; apply Bin.add_in; omega
     apply omv; rfl; rfl
     apply OL.nil
     rw [e1, e2]
     exact At.again (i + 1, ⟨O1, some ⟨g1, 0, none⟩, cap1, ls ++ [u]⟩) ⟨by simp only; omega, by simp only [hstep, hf, hu2]; simp, by simp only [← e1]; omega, fun p hp => (List.mem_append.1 hp).elim (hok p) (fun hp => by rw [List.mem_singleton] at hp; rw [hp]; exact huok)⟩ (by simp only; omega) (by exact Sub.au) (fun w' hw' => hw'.thin (by exact Thin.au))
    ·apply W.skip
     with_reducible apply At.in_normal
     with_reducible apply At.next
     apply W.reg
     apply obn; rfl; rfl; rfl; apply Bin.add_in; omega
     apply omv; rfl; rfl
     apply OL.nil
     exact At.again (i + 1, ⟨O, q1, c1, ls⟩) ⟨by simp only; omega, by simp only [hstep, hf]; simp, by simp only; omega, hok⟩ (by simp only; omega) (by exact Sub.au) (fun w' hw' => hw'.thin (by exact Thin.au))
   ·obtain rfl : i = rs.length := by omega
    rw [List.take_length, hrows] at hps
    refine W.xt ?_
    with_reducible apply At.next
    apply W.seq
    apply W.regd0; decide +kernel; kernel_rfl; decide +kernel; exact fun w hw => hw.drew
    apply qop; rfl; apply Pev.load_blkA; rfl; exact yes; exact .tail _ (.head _); rfl; exact Take.au
    apply qmv; rfl; rfl
    apply qmv; rfl; rfl
    apply qop; rfl; apply Pev.slice_lo; rfl; exact yes; rfl; exact yes; rfl; rfl; intro hcond; (simp only [Bool.and_eq_true, Bool.or_eq_true, Bool.not_eq_true', decide_eq_true_eq, decide_eq_false_iff_not] at *; omega)
    (((first | (with_reducible apply OL.op) | (with_reducible apply QL.op)); (exact Guard.au); rfl; rfl); (refine Pev.call (v := .bool (usefulE T.D f (leftI rows z.1.var) trow)) rfl (by exact Args.au) (fun _ w2 hw2 => ?_)))
    ·have hno2 : ∀ k, k < w.heap.size → NotOwned [row w.heap.size O q1 ls.length c1 25 1 (cat patsR.c ls), blk b0 55 [.slice T.q T.ds.length T.c, .map (some T.b)]] k := fun k hk => NotOwned.row (by omega) (NotOwned.blk (by omega) .nil)
     have hc := ih q1 c1 ls (cutq (some ar) capr 1 4) (capr - 1) pt w2 (hT.at hw2 (.head _) hno2) (by omega) (Arr.of_sl (SlAt.of_row (hw2.item (.head _))) (fun r hr => Rel.at (R := patsR) (hok r hr) hw2 (.head _) hno2)) (hdrop.at hw2 (.head _) hno2) (by omega) (by rw [hrow, hps, ← hrowl]; exact hMw.1) (by rw [hrow, hps, ← hrowl]; have := hMw.2; omega) (by rw [hrow, hps, ← hrowl]; have := hMw.2; omega)
     rw [hrow, hps] at hc
     unfold TT.v at hc
     rw [Nat.add_sub_cancel]
     exact hc.mono (fun e w3 h => ⟨h.1, hw2.ext h.2⟩)
    apply qas; rfl; rfl
    apply QL.nil
    with_reducible apply At.next
    refine W.rt ?_
    ((with_reducible apply At.fin1); rfl; rfl; intro w' hw')
    exact ⟨rfl, hw'.toExt (s := w) (.head _) (fun k hk => NotOwned.row (by omega) (NotOwned.blk (by omega) .nil))⟩
  rw [if_neg hk2]
  have hzf : free z.1 = true := by
   cases hf : free z.1 with
   | true => rfl
   | false => exact absurd (hwp.kinds hf) (by omega)
  apply W.skip
  with_reducible apply At.in_normal
  with_reducible apply At.next
  apply W.sr
  apply omv; rfl; rfl
  refine OL.callE (α := (Option Addr × Nat × List (Ty × PY)) × Nat × Nat) (fun z => .slice z.1.1 z.1.2.2.length z.1.2.1) (fun z => z.1.2.2.map Prod.fst = first rows ∧ z.1.2.2.length ≤ 100000 ∧ (∀ p ∈ z.1.2.2, TyO w (low w) p.1 p.2) ∧ w.heap.size ≤ z.2.1) (fun z => Cls [pile z.2.1 (fun k => k < z.2.2) [⟨z.1.1, z.1.2.1, cat tyR.c z.1.2.2⟩], blk b0 55 [.slice T.q T.ds.length T.c, .map (some T.b)]] [w]) rfl rfl (by exact Args.au) (fun w2 hw2 => ?_) ?_
  ·refine (first_calls q cap rs w w2 (hw2.toExt (.head _) (fun k hk => by exact NotOwned.au)) (by omega) h hne).mono ?_
   rintro e w3 ⟨q', c', ps, h1, h2, h3, h4, h5, h6⟩
   exact ⟨((q', c', ps), w2.heap.size, w3.heap.size), h1, ⟨by rw [h2, hrows], by simp only; omega, h5, (hw2.kp w (.head _)).size⟩, Cls.fra hw2 h6 h4⟩
  rintro ⟨⟨qf, cf, pf⟩, lo1, hi1⟩ ⟨hpf, hpfl, hpfo, hlo1⟩
  simp only at hpf hpfl hpfo hlo1 ⊢
  have hpm : ∀ p ∈ pf, p.1 ∈ first rows := fun p hp => by rw [← hpf]; exact List.mem_map_of_mem hp
  have hno1 : ∀ k, k < w.heap.size → NotOwned [pile lo1 (fun k => k < hi1) [⟨qf, cf, cat tyR.c pf⟩], blk b0 55 [.slice T.q T.ds.length T.c, .map (some T.b)]] k := fun k hk => NotOwned.pile (by omega) (NotOwned.blk (by omega) .nil)
  obtain ⟨ab, hab⟩ : ∃ ab, absent T.D (first rows) = ab := ⟨_, rfl⟩
  apply oas; rfl; rfl
  apply OL.nx
  apply W.seq
  apply W.sr
  apply oop; rfl; apply Pev.load_blkA; rfl; exact yes; exact .tail _ (.head _); rfl; exact Take.au
  apply omv; rfl; rfl
  refine OL.callE (α := PY × Nat × Nat) (fun z => .tuple #[.agg (tyc (ab.getD anyT) z.1).toArray, .bool ab.isSome]) (fun z => w.heap.size ≤ z.2.1) (fun z => Cls [pool tyR z.2.1 (fun k => k < z.2.2) [(ab.getD anyT, z.1)], pile lo1 (fun k => k < hi1) [⟨qf, cf, cat tyR.c pf⟩], blk b0 55 [.slice T.q T.ds.length T.c, .map (some T.b)]] [w]) rfl rfl (by exact Args.au) (fun w2 hw2 => ?_) ?_
  ·refine (absent_calls T qf cf pf w2 (hT.at hw2 (.head _) hno1) (by omega) (pile_arr (hw2.item (.head _)) (fun p hp => Rel.at (R := tyR) (hpfo p hp) hw2 (.head _) hno1)) (fun p hp => ⟨(hMr.wf_first (hpm p hp)).1, (first_col (hpm p hp)).2⟩) (fun p hp q hq => (hMr.kinds (hpm p hp) (hpm q hq)).1)).mono ?_
   rintro e w3 ⟨y, h1, h2, h3⟩
   rw [hpf, hab] at h1 h2
   exact ⟨(y, w2.heap.size, w3.heap.size), h1, (hw2.kp w (.head _)).size, Cls.pat hw2 h3 h2⟩
  rintro ⟨ya, lo2, hi2⟩ hlo2
  simp only [tyc] at hlo2 ⊢
  cases ab with
  | some p =>
   simp only [Option.getD_some, Option.isSome_some]
   rw [hab]
   simp only
   have hMw := use_rest hM1
   apply omv; rfl; rfl
   apply oex; rfl; rfl; rfl
   apply oex; rfl; rfl; rfl
   apply OL.alloc; rfl; rfl; exact CellsL.agg; (intro bk hbk; simp only [AllLe, and_true] at hbk)
   apply OL.storeB; rfl; rfl; exact CellsL.agg; rfl; rfl; rfl; exact Swap.au; exact Put.au
   apply oas; rfl; rfl
   apply OL.nsr
   apply omv; rfl; rfl
   apply OL.nx
   revert bk
   intro b9 hb9
   refine W.cond rfl (fun _ => ?_) (fun hb => by cases hb)
   have hH : ∀ k, k < w.heap.size → NotOwned [blk b0 55 [.slice T.q T.ds.length T.c, .map (some T.b)]] k := fun k hk => NotOwned.blk (by omega) .nil
   refine W.cls (C' := Cls [blk b0 55 [.slice T.q T.ds.length T.c, .map (some T.b)]] [w]) (fun w' hw' => hw'.thin (.blk (by simp only [AllLe, and_true]; omega) (.any (fun k hk => ⟨Nat.le_trans hlo2 hk.1, trivial⟩) (.any (fun k hk => ⟨Nat.le_trans hlo1 hk.1, trivial⟩) Thin.same)))) ?_
   apply W.seq
   (refine W.regm (by (repeat (first | exact ZSplit.nil | apply ZSplit.pure rfl | apply ZSplit.tail))) (by (repeat (first | exact Tag.nil | apply Tag.pu rfl | apply Tag.ef))) (by kernel_rfl) (by decide +kernel) (fun w hw => hw.drew) ?_)
   apply ZL.ld rfl; exact Guard.none; rfl; rfl; apply Pev.load_blkA; rfl; exact yes; exact .head _; rfl; exact Take.au
   apply ZL.op rfl; exact Guard.none; rfl; rfl; apply Pev.move; rfl; exact yes
   apply ZL.op rfl; exact Guard.none; rfl; rfl; apply Pev.move; rfl; exact yes
   apply ZL.op rfl; exact Guard.none; rfl; rfl; apply Pev.slice_lo; rfl; exact yes; rfl; exact yes; rfl; rfl; intro hcond; (simp only [Bool.and_eq_true, Bool.or_eq_true, Bool.not_eq_true', decide_eq_true_eq, decide_eq_false_iff_not] at *; omega)
   apply ZL.nilM
   apply TM.one rfl
   refine OL.callE (α := (Option Addr × Nat × List (List Ty × PY)) × Nat × Nat) (fun z => .slice z.1.1 z.1.2.2.length z.1.2.1) (fun z => z.1.2.2.map Prod.fst = rest rows ∧ z.1.2.2.length ≤ 100000 ∧ (∀ r ∈ z.1.2.2, patsR.ok w (low w) r.1 r.2) ∧ w.heap.size ≤ z.2.1) (fun z => Cls [pile z.2.1 (fun k => k < z.2.2) [⟨z.1.1, z.1.2.1, cat patsR.c z.1.2.2⟩], blk b0 55 [.slice T.q T.ds.length T.c, .map (some T.b)]] [w]) rfl rfl (by exact Args.au) (fun w2 hw2 => ?_) ?_
   ·refine (rest_calls q cap rs w w2 (hw2.toExt (.head _) hH) (by omega) h hne).mono ?_
    rintro e w3 ⟨q', c', ls, h1, h2, h3, h4, h5, h6, h7⟩
    exact ⟨((q', c', ls), w2.heap.size, w3.heap.size), h1, ⟨by rw [h2, hrows], by simp only; omega, h6, (hw2.kp w (.head _)).size⟩, Cls.frs hw2 h7 h5⟩
   rintro ⟨⟨ql, cl, ls⟩, lo3, hi3⟩ ⟨hls, hlsl, hlso, hlo3⟩
   simp only at hls hlsl hlso hlo3 ⊢
   apply OL.nil
   refine At.tkm (fun w9 hw9 => hw9.thin (.any (fun k hk => ⟨Nat.le_trans hlo3 hk.1, trivial⟩) Thin.same)) ?_
   apply TM.one rfl
   (((first | (with_reducible apply OL.op) | (with_reducible apply QL.op)); (exact Guard.au); rfl; rfl); (refine Pev.call (v := .bool (usefulE T.D f (rest rows) trow)) rfl (by exact Args.au) (fun _ w2 hw2 => ?_)))
   ·have hno2 : ∀ k, k < w.heap.size → NotOwned [pile lo3 (fun k => k < hi3) [⟨ql, cl, cat patsR.c ls⟩], blk b0 55 [.slice T.q T.ds.length T.c, .map (some T.b)]] k := fun k hk => NotOwned.pile (by omega) (hH k hk)
    have hc := ih ql cl ls (cutq (some ar) capr 1 4) (capr - 1) pt w2 (hT.at hw2 (.head _) hno2) hlsl (Arr.of_sl (pile_at (hw2.item (.head _)) (.head _)) (fun r hr => Rel.at (R := patsR) (hlso r hr) hw2 (.head _) hno2)) (hdrop.at hw2 (.head _) hno2) (by omega) (by rw [hrow, hls, ← hrowl]; exact hMw.1) (by rw [hrow, hls, ← hrowl]; have := hMw.2; omega) (by rw [hrow, hls, ← hrowl]; have := hMw.2; omega)
    rw [hrow, hls] at hc
    unfold TT.v at hc
    rw [Nat.add_sub_cancel]
    exact hc.mono (fun e w3 h => ⟨h.1, hw2.ext h.2⟩)
   apply OL.nil
   with_reducible apply At.tnm; decide +kernel
   apply TM.pure rfl; exact Guard.none; rfl; rfl; apply Pev.assign; rfl; exact yes
   apply TM.nil
   with_reducible apply At.np
   with_reducible apply At.next
   refine W.rt ?_
   ((with_reducible apply At.fin1); rfl; rfl; intro w' hw')
   exact ⟨rfl, hw'.toExt (s := w) (.head _) (fun k hk => NotOwned.pile (by omega) (hH k hk))⟩
  | none =>
   simp only [Option.getD_none, Option.isSome_none]
   obtain ⟨d, x0, hx0, hxd, hall, hcf, _, hcon⟩ := absent_none hMr hab
   rw [hab]
   simp only
   rw [hcf]
   have h3 : ∀ q ∈ first rows, q.kind = 3 := fun q hq => (hall q hq).1
   obtain ⟨z0, pf', hpf0⟩ : ∃ z r, pf = z :: r := by
    cases hx : pf with
    | nil => rw [hx] at hpf; rw [← hpf] at hx0; cases hx0
    | cons z r => exact ⟨z, r, rfl⟩
   have hz0m : z0.1 ∈ first rows := hpm z0 (by rw [hpf0]; exact .head _)
   obtain ⟨hz3, hzd⟩ := hall _ hz0m
   obtain ⟨c0, e1⟩ : ∃ c0, conAt T.D z0.1.name = some (d, c0) := by
    obtain ⟨d', c', g1, _⟩ := (hMr.wf_first hz0m).1.cons hz3
    rw [dOf_of g1] at hzd
    cases hzd
    exact ⟨c', g1⟩
   obtain ⟨ad, ud, cs, k1, k2, k3, k4, k5, k6, k7⟩ := dat_at hT e1
   obtain ⟨ix, hmg⟩ := hT.tab.con e1
   have hcu := hT.uniq
   apply omv; rfl; rfl
   apply oex; rfl; rfl; rfl
   apply oex; rfl; rfl; rfl
   apply OL.alloc; rfl; rfl; exact CellsL.agg; (intro bk hbk; simp only [AllLe, and_true] at hbk)
   apply OL.storeB; rfl; rfl; exact CellsL.agg; rfl; rfl; rfl; exact Swap.au; exact Put.au
   apply oas; rfl; rfl
   apply OL.nsr
   apply omv; rfl; rfl
   apply OL.nx
   revert bk
   intro b9 hb9
   refine W.cond rfl (fun hb => by cases hb) (fun _ => ?_)
   refine W.cls (C' := Cls [pile lo1 (fun k => k < hi1) [⟨qf, cf, cat tyR.c pf⟩], blk b0 55 [.slice T.q T.ds.length T.c, .map (some T.b)]] [w]) (fun w' hw' => hw'.thin (.blk (by simp only [AllLe, and_true]; omega) (.any (fun k hk => ⟨Nat.le_trans hlo2 hk.1, trivial⟩) Thin.same))) ?_
   refine W.fact (φ := ∃ a, qf = some a) (fun w' hw' => pile_some (hw'.item (.head _)) (.head _) (by rw [hpf0]; exact Nat.succ_pos _)) (fun hq => ?_)
   obtain ⟨af, rfl⟩ := hq
   have hpl0 : 0 < pf.length := by rw [hpf0]; exact Nat.succ_pos _
   rw [k1] at hno1 ⊢
   apply W.sk
   apply W.seq
   apply W.seq
   apply W.regd0; decide +kernel; kernel_rfl; decide +kernel; exact fun w hw => hw.drew
   apply qfa; rfl; rfl; rfl
   apply qld; rfl; rfl; exact .tail _ (.head _); rfl; rfl
   apply qfa; rfl; rfl; rfl
   apply qld; rfl; rfl; exact .tail _ (.head _); rfl; rfl
   apply qmv; rfl; rfl
   apply qop; rfl; apply Pev.idx; rfl; exact yes; rfl; exact yes; rfl; rfl; intro hcond; omega
   apply qop; rfl; apply Pev.fldA; rfl; exact yes; rfl
   (((first | (with_reducible apply OL.op) | (with_reducible apply QL.op)); (exact Guard.au); rfl; rfl); (refine Pev.load_pile (s := ⟨some af, cf, cat tyR.c pf⟩) (k := 1) (v := .string z0.1.name) rfl (by (first | exact fun _ => rfl | exact fun h => h | (intro h; simp_all; done))) (.head _) rfl (.head _) rfl (by rw [hpf0]; rfl)))
   skip
   (((first | (with_reducible apply OL.op) | (with_reducible apply QL.op)); (exact Guard.au); rfl; rfl); (refine Pev.lookup_v (m := T.m) (v := .agg #[.int .i64 (d : Int), .int .i64 ix, .int .i64 (c0.many : Int)]) (zv := .agg #[.int .i64 0, .int .i64 0, .int .i64 0]) rfl (by (first | exact fun _ => rfl | exact fun h => h | (intro h; simp_all; done))) rfl (by (first | exact fun _ => rfl | exact fun h => h | (intro h; simp_all; done))) rfl rfl (fun w2 hw2 => (hT.at hw2 (by exact mau) hno1).map_) (by rw [hmg]; rfl)))
   apply qop; rfl; apply Pev.field; rfl; exact yes; rfl; rfl
   apply qop; rfl; apply Pev.idx; rfl; exact yes; rfl; exact yes; rfl; rfl; intro hcond; omega
   apply qop; rfl; apply Pev.fldA; rfl; exact yes; rfl
   apply qop; rfl; apply Pev.load_kept; rfl; exact yes; exact .head _; rfl; intro hcond; apply CellsAt.at_ (by assumption) rfl; intro hcond; (simp only [add_block]; assumption); intro hcond; exact NotOwned.au
   apply qop; rfl; apply Pev.len_slice; rfl; exact yes; rfl
   apply qmv; rfl; rfl
   apply QL.nil
   with_reducible apply At.next
   apply W.block
   have hH0 : ∀ k, k < w.heap.size → NotOwned [blk b0 55 [.slice (some ad) T.ds.length T.c, .map (some T.b)]] k := fun k hk => NotOwned.blk (by omega) .nil
   refine W.loop (G := Nat) (fun j => j ≤ cs.length ∧ ((cs.map Prod.fst).drop j).any (fun c => usefulE T.D f (narrow rows c.name c.many) (anys c.many ++ trow)) = (consOf T.D d).any (fun c => usefulE T.D f (narrow rows c.name c.many) (anys c.many ++ trow))) (fun j => cs.length - j)
    (fun j => [(1, true, .slice q rs.length cap), (2, true, .slice (some ar) (pt.length + 1) capr), (3, true, .pointer (some ⟨b0, 0, none⟩)), (115, true, .slice ud.2.q cs.length ud.2.cap), (116, true, .int .i64 (cs.length : Int)), (117, true, .int .i64 (j : Int))])
    (fun j => Cls [blk b0 55 [.slice (some ad) T.ds.length T.c, .map (some T.b)]] [w]) 0 ⟨Nat.zero_le _, by rw [k5]; rfl⟩ (by exact Sub.au) (fun w' hw' => hw'.thin (.any (fun k hk => ⟨Nat.le_trans hlo1 hk.1, trivial⟩) Thin.same)) ?_
   rintro j ⟨hj1, hj2⟩
   apply W.sr
   apply obn; rfl; rfl; rfl; apply Bin.lss
   apply OL.nx
   apply W.seq
   (refine W.cnd (fun hlt => ?_) (fun hlt => ?_)) <;> (try (exfalso; first | omega | exact hlt trivial | contradiction))
   ·obtain ⟨ac, uc, hq3, hab3, hu3, hcell3, hok3⟩ := k6.get (show j < cs.length by omega)
    have hab3 : ac.block < w.heap.size := hab3
    have hcell3 : CellsAt w (ac.add (j * 2)) [.string uc.1.name, .slice uc.2.1 uc.1.many uc.2.2] := hcell3
    have hdr : (cs.map Prod.fst).drop j = uc.1 :: (cs.map Prod.fst).drop (j + 1) := by
     have hl : j < (cs.map Prod.fst).length := by rw [List.length_map]; omega
     rw [List.drop_eq_getElem_cons hl]
     congr 1
     rw [List.getElem_map]
     rw [List.getElem?_eq_getElem (by omega)] at hu3
     rw [Option.some.inj hu3]
    have hcm : uc.1 ∈ consOf T.D d := by
     rw [k5]
     exact List.mem_map_of_mem (List.mem_of_getElem? hu3)
    have hcc := hcu d uc.1 hcm
    have hMw := use_any hcu hM1 hzf hab hall hcon hx0 hcm
    have hocc := occurs hcu hMr hall hcon hcm
    rw [hdr, List.any_cons] at hj2
    rw [hq3]
    apply W.sk
    apply W.sb
    apply W.sr
    apply oop; rfl; apply Pev.idx; rfl; exact yes; rfl; exact yes; rfl; rfl; intro hcond; omega
    apply oop; rfl; apply Pev.load_keptA; rfl; exact yes; exact .head _; rfl; intro hcond; assumption; rfl; intro hcond; (rw [add_block]; assumption); intro hcond; exact NotOwned.au
    apply OL.alloc; rfl; rfl; exact CellsL.agg; (intro bk hbk; simp only [AllLe, and_true] at hbk)
    apply OL.storeB; rfl; rfl; exact CellsL.agg; rfl; rfl; rfl; exact Swap.au; exact Put.au
    apply OL.nsr
    apply ofa; rfl; rfl; rfl
    apply old; rfl; rfl; exact .head _; rfl; rfl
    apply oop; rfl; apply Pev.len_slice; rfl; exact yes; rfl
    apply oas; rfl; rfl
    apply OL.nx
    apply W.seq
    revert bk
    intro b14 hb14
    have hH1 : ∀ k, k < w.heap.size → NotOwned [blk b14 86 [.string uc.1.name, .slice uc.2.1 uc.1.many uc.2.2], blk b0 55 [.slice (some ad) T.ds.length T.c, .map (some T.b)]] k := fun k hk => NotOwned.blk (by omega) (NotOwned.blk (by omega) .nil)
    (refine W.regm (by (repeat (first | exact ZSplit.nil | apply ZSplit.pure rfl | apply ZSplit.tail))) (by (repeat (first | exact Tag.nil | apply Tag.pu rfl | apply Tag.ef))) (by kernel_rfl) (by decide +kernel) (fun w hw => hw.drew) ?_)
    apply ZL.ld rfl; exact Guard.none; rfl; rfl; apply Pev.load_blkA; rfl; exact yes; exact .tail _ (.head _); rfl; exact Take.au
    apply ZL.op rfl; exact Guard.none; rfl; rfl; apply Pev.move; rfl; exact yes
    apply ZL.op rfl; exact Guard.none; rfl; rfl; apply Pev.fld; rfl; exact yes; rfl
    apply ZL.ld rfl; exact Guard.none; rfl; rfl; apply Pev.load_blk; rfl; exact yes; exact .head _; rfl; rfl
    apply ZL.op rfl; exact Guard.none; rfl; rfl; apply Pev.move; rfl; exact yes
    apply ZL.op rfl; exact Guard.none; rfl; rfl; apply Pev.move; rfl; exact yes
    apply ZL.op rfl; exact Guard.none; rfl; rfl; apply Pev.move; rfl; exact yes
    apply ZL.op rfl; exact Guard.none; rfl; rfl; apply Pev.slice_lo; rfl; exact yes; rfl; exact yes; rfl; rfl; intro hcond; (simp only [Bool.and_eq_true, Bool.or_eq_true, Bool.not_eq_true', decide_eq_true_eq, decide_eq_false_iff_not] at *; omega)
    apply ZL.nilM
    apply TM.one rfl
    refine OL.callE (α := GE × (Nat → Prop) × Nat) (fun gz => .slice gz.1.q gz.1.ps.length gz.1.c) (fun gz => gz.1.ps.map (fun r => r.1.map Prod.fst) = narrow rows uc.1.name uc.1.many ∧ gz.1.ps.length ≤ 100000 ∧ w.heap.size ≤ gz.2.2) (fun gz => Cls [row gz.2.2 gz.1.O gz.1.q gz.1.ps.length gz.1.c 25 1 (cat (patsE (fun p => TyO w (low w) p.1 p.2)).c gz.1.ps), pool (patsE (fun p => TyO w (low w) p.1 p.2)) gz.2.2 gz.2.1 gz.1.ps, blk b14 86 [.string uc.1.name, .slice uc.2.1 uc.1.many uc.2.2], blk b0 55 [.slice (some ad) T.ds.length T.c, .map (some T.b)]] [w]) rfl rfl (by exact Args.au) (fun w2 hw2 => ?_) ?_
    ·refine (narrow_calls q cap rs uc.1.name uc.1.many w w2 (hw2.toExt (.head _) (fun k hk => hH1 k hk)) (by omega) h hne (by omega) (hnsz uc.1.name)).mono ?_
     rintro e w3 ⟨g, O2, h1, h2, h3, h4⟩
     rw [hrows] at h2
     refine ⟨(g, O2, w2.heap.size), h1, ⟨h2, by simp only; omega, (hw2.kp w (.head _)).size⟩, hw2.over (h4.forget (fun s hs => by rw [List.mem_singleton] at hs; rw [hs]; exact .head _)) (fun i hi k hk => ?_)⟩
     rcases List.mem_cons.1 hi with rfl | hi
     ·exact hk.1
     ·rw [List.mem_singleton] at hi
      subst hi
      exact hk.1
    rintro ⟨⟨On, qn, cn, pn⟩, On2, lo3⟩ ⟨hpn, hpnl, hlo3⟩
    simp only at hpn hpnl hlo3 ⊢
    apply OL.nil
    refine At.tkm (fun w9 hw9 => hw9.thin (.any (fun k hk => ⟨Nat.le_trans hlo3 hk.1, trivial⟩) (.any (fun k hk => ⟨Nat.le_trans hlo3 hk.1, trivial⟩) Thin.same))) ?_
    apply TM.one rfl
    refine OL.callE (α := Option Addr × Nat × Nat) (fun gz => .slice gz.1 uc.1.many uc.1.many) (fun gz => w.heap.size ≤ gz.2.1) (fun gz => Cls [pile gz.2.1 (fun k => k < gz.2.2) [⟨gz.1, uc.1.many, cat tyR.c (List.replicate uc.1.many (anyT, ((none, 0) : PY)))⟩], row lo3 On qn pn.length cn 25 1 (cat (patsE (fun p => TyO w (low w) p.1 p.2)).c pn), pool (patsE (fun p => TyO w (low w) p.1 p.2)) lo3 On2 pn, blk b14 86 [.string uc.1.name, .slice uc.2.1 uc.1.many uc.2.2], blk b0 55 [.slice (some ad) T.ds.length T.c, .map (some T.b)]] [w]) rfl rfl (by exact Args.au) (fun w2 hw2 => (anys_calls uc.1.many w2 (by omega)).mono fun e w3 ⟨q, h1, h2, h3⟩ => ⟨(q, w2.heap.size, w3.heap.size), h1, (hw2.kp w (.head _)).size, Cls.fra hw2 h3 h2⟩) ?_
    rintro ⟨qa, loa, hia⟩ hloa
    simp only at hloa ⊢
    apply OL.nil
    refine At.tkm (fun w9 hw9 => hw9.thin (.any (fun k hk => ⟨Nat.le_trans hloa hk.1, trivial⟩) (.any (fun k hk => ⟨Nat.le_trans hlo3 hk.1, trivial⟩) (.any (fun k hk => ⟨Nat.le_trans hlo3 hk.1, trivial⟩) Thin.same)))) ?_
    apply TM.one rfl
    apply OL.buildSlice; rfl; rfl; rfl; exact Elems.au; rfl; rfl; (intro bk hbk; simp only [AllLe, and_true] at hbk)
    apply OL.nil
    revert bk
    intro bL hbL
    refine At.tkm (fun w9 hw9 => hw9.thin (.blk (by simp only [AllLe, and_true]; omega) (.any (fun k hk => ⟨Nat.le_trans hloa hk.1, trivial⟩) (.any (fun k hk => ⟨Nat.le_trans hlo3 hk.1, trivial⟩) (.any (fun k hk => ⟨Nat.le_trans hlo3 hk.1, trivial⟩) Thin.same))))) ?_
    apply TM.one rfl
    refine OL.callE (α := PY × Nat × Nat) (fun gz => .slice gz.1.1 (uc.1.many + (pt.length + 1 - 1)) gz.1.2) (fun gz => uc.1.many + (pt.length + 1 - 1) ≤ gz.1.2 ∧ w.heap.size ≤ gz.2.1) (fun gz => Cls [pile gz.2.1 (fun k => k < gz.2.2) [⟨gz.1.1, gz.1.2, cat tyR.c (List.replicate uc.1.many (anyT, ((none, 0) : PY)) ++ pt)⟩], blk bL 25 [.slice qa uc.1.many uc.1.many, .slice (cutq (some ar) capr 1 4) (pt.length + 1 - 1) (capr - 1)], pile loa (fun k => k < hia) [⟨qa, uc.1.many, cat tyR.c (List.replicate uc.1.many (anyT, ((none, 0) : PY)))⟩], row lo3 On qn pn.length cn 25 1 (cat (patsE (fun p => TyO w (low w) p.1 p.2)).c pn), pool (patsE (fun p => TyO w (low w) p.1 p.2)) lo3 On2 pn, blk b14 86 [.string uc.1.name, .slice uc.2.1 uc.1.many uc.2.2], blk b0 55 [.slice (some ad) T.ds.length T.c, .map (some T.b)]] [w]) rfl rfl (by exact Args.au) (fun w2 hw2 => ?_) ?_
    ·have hno2 : ∀ k, k < w.heap.size → NotOwned [blk bL 25 [.slice qa uc.1.many uc.1.many, .slice (cutq (some ar) capr 1 4) (pt.length + 1 - 1) (capr - 1)], pile loa (fun k => k < hia) [⟨qa, uc.1.many, cat tyR.c (List.replicate uc.1.many (anyT, ((none, 0) : PY)))⟩], row lo3 On qn pn.length cn 25 1 (cat (patsE (fun p => TyO w (low w) p.1 p.2)).c pn), pool (patsE (fun p => TyO w (low w) p.1 p.2)) lo3 On2 pn, blk b14 86 [.string uc.1.name, .slice uc.2.1 uc.1.many uc.2.2], blk b0 55 [.slice (some ad) T.ds.length T.c, .map (some T.b)]] k := fun k hk => NotOwned.blk (by omega) (NotOwned.pile (by omega) (NotOwned.row (by omega) (NotOwned.pool (by omega) (hH1 k hk))))
     refine (Concat2_calls bL (uc.1.many) (pt.length + 1 - 1) (List.replicate uc.1.many (anyT, ((none, 0) : PY))) pt qa (cutq (some ar) capr 1 4) uc.1.many (capr - 1) w2 (hw2.item (.head _)) List.length_replicate (by omega) (pile_arr (hw2.item (.tail _ (.head _))) (anyl_ok w2 _ uc.1.many)) (hdrop.at hw2 (.head _) hno2) (by omega)).mono ?_
     rintro e w3 ⟨q5, c5, h1, h2, h3, h4⟩
     exact ⟨((q5, c5), w2.heap.size, w3.heap.size), h1, ⟨h2, (hw2.kp w (.head _)).size⟩, Cls.fra hw2 h4 h3⟩
    rintro ⟨y5, lo5, hi5⟩ ⟨hy5, hlo5⟩
    simp only at hy5 hlo5 ⊢
    apply OL.nil
    refine At.tkm (fun w9 hw9 => hw9.thin (.any (fun k hk => ⟨Nat.le_trans hlo5 hk.1, trivial⟩) (.blk (by simp only [AllLe, and_true]; omega) (.any (fun k hk => ⟨Nat.le_trans hloa hk.1, trivial⟩) (.any (fun k hk => ⟨Nat.le_trans hlo3 hk.1, trivial⟩) (.any (fun k hk => ⟨Nat.le_trans hlo3 hk.1, trivial⟩) Thin.same)))))) ?_
    apply TM.one rfl
    (((first | (with_reducible apply OL.op) | (with_reducible apply QL.op)); (exact Guard.au); rfl; rfl); (refine Pev.call (v := .bool (usefulE T.D f (narrow rows uc.1.name uc.1.many) (anys uc.1.many ++ trow))) rfl (by exact Args.au) (fun _ w2 hw2 => ?_)))
    ·have hno2 : ∀ k, k < w.heap.size → NotOwned [pile lo5 (fun k => k < hi5) [⟨y5.1, y5.2, cat tyR.c (List.replicate uc.1.many (anyT, ((none, 0) : PY)) ++ pt)⟩], blk bL 25 [.slice qa uc.1.many uc.1.many, .slice (cutq (some ar) capr 1 4) (pt.length + 1 - 1) (capr - 1)], pile loa (fun k => k < hia) [⟨qa, uc.1.many, cat tyR.c (List.replicate uc.1.many (anyT, ((none, 0) : PY)))⟩], row lo3 On qn pn.length cn 25 1 (cat (patsE (fun p => TyO w (low w) p.1 p.2)).c pn), pool (patsE (fun p => TyO w (low w) p.1 p.2)) lo3 On2 pn, blk b14 86 [.string uc.1.name, .slice uc.2.1 uc.1.many uc.2.2], blk b0 55 [.slice (some ad) T.ds.length T.c, .map (some T.b)]] k := fun k hk => NotOwned.pile (by omega) (NotOwned.blk (by omega) (NotOwned.pile (by omega) (NotOwned.row (by omega) (NotOwned.pool (by omega) (hH1 k hk)))))
     have harr := pool_arr hw2 (.tail _ (.tail _ (.tail _ (.head _)))) (.tail _ (.tail _ (.tail _ (.tail _ (.head _))))) (hw2.toExt (.head _) hno2)
     have hmap : (pn.map fun r => (r.1.map Prod.fst, r.2)).map Prod.fst = narrow rows uc.1.name uc.1.many := by rw [List.map_map, ← hpn]; rfl
     have hrw : (List.replicate uc.1.many (anyT, ((none, 0) : PY)) ++ pt).map Prod.fst = anys uc.1.many ++ trow := by rw [List.map_append, hrow, anyl_map]
     have hrl : (List.replicate uc.1.many (anyT, ((none, 0) : PY)) ++ pt).length = uc.1.many + (pt.length + 1 - 1) := by rw [List.length_append, Nat.add_sub_cancel, List.length_replicate]
     have hrl2 : (anys uc.1.many ++ trow).length = uc.1.many + (pt.length + 1 - 1) := by rw [← hrw, List.length_map, hrl]
     have hpa : Arr tyR w2 (low w2) (List.replicate uc.1.many (anyT, ((none, 0) : PY)) ++ pt) y5.1 := pile_arr (hw2.item (.head _)) (fun p hp => Rel.at (R := tyR) ((List.mem_append.1 hp).elim (fun hp => anyl_ok w _ uc.1.many p hp) (fun hp => hr.el p (.tail _ hp))) hw2 (.head _) hno2)
     have hc := ih qn cn (pn.map fun r => (r.1.map Prod.fst, r.2)) y5.1 y5.2 (List.replicate uc.1.many (anyT, ((none, 0) : PY)) ++ pt) w2 (hT.at hw2 (.head _) hno2) (by rw [List.length_map]; exact hpnl) harr hpa (by rw [hrl]; exact hy5) (by rw [hmap, hrw, hrl, ← hrl2]; exact hMw.1) (by rw [hmap, hrw, hrl, ← hrl2]; have := hMw.2; omega) (by rw [hmap, hrw, hrl, ← hrl2]; have := hMw.2; omega)
     rw [hmap, hrw, List.length_map, hrl] at hc
     unfold TT.v at hc
     rw [k1] at hc
     exact hc.mono (fun e w3 h => ⟨h.1, hw2.ext h.2⟩)
    apply OL.nil
    with_reducible apply At.tnm; decide +kernel
    apply TM.nil
    with_reducible apply At.np
    with_reducible apply At.next
    refine W.cond rfl (fun hb => ?_) (fun hb => ?_)
    ·have hb : usefulE T.D f (narrow rows uc.1.name uc.1.many) (anys uc.1.many ++ trow) = true := hb
     rw [hb, Bool.true_or] at hj2
     rw [← hj2]
     apply W.sr
     apply oas; rfl; rfl
     apply OL.nx
     refine W.rt ?_
     ((with_reducible apply At.fin1); rfl; rfl; intro w' hw')
     exact ⟨rfl, hw'.toExt (s := w) (.head _) (fun k hk => NotOwned.pile (by omega) (NotOwned.blk (by omega) (NotOwned.pile (by omega) (NotOwned.row (by omega) (NotOwned.pool (by omega) (hH1 k hk))))))⟩
    ·have hb : usefulE T.D f (narrow rows uc.1.name uc.1.many) (anys uc.1.many ++ trow) = false := hb
     rw [hb, Bool.false_or] at hj2
     apply W.skip
     with_reducible apply At.in_normal
     with_reducible apply At.next
     apply W.reg
     apply obn; rfl; rfl; rfl; apply Bin.add_in; omega
     apply omv; rfl; rfl
     apply OL.nil
     exact At.again (j + 1) ⟨by omega, hj2⟩ (by omega) (by exact Sub.au) (fun w' hw' => hw'.thin (.any (fun k hk => ⟨Nat.le_trans hlo5 hk.1, trivial⟩) (.blk (by simp only [AllLe, and_true]; omega) (.any (fun k hk => ⟨Nat.le_trans hloa hk.1, trivial⟩) (.any (fun k hk => ⟨Nat.le_trans hlo3 hk.1, trivial⟩) (.any (fun k hk => ⟨Nat.le_trans hlo3 hk.1, trivial⟩) (.blk (by simp only [AllLe, and_true]; omega) Thin.same)))))))
   ·rw [List.drop_eq_nil_of_le (by rw [List.length_map]; omega), List.any_nil] at hj2
    rw [← hj2]
    refine W.xt ?_
    with_reducible apply At.next
    apply W.sr
    apply oas; rfl; rfl
    apply OL.nx
    apply W.ret
    ((with_reducible apply At.fin1); rfl; rfl; intro w' hw')
    exact ⟨rfl, by (exact hw'.fr)⟩
end Go.Proofs.Ytleggdmhihcafaa.pt

/- The walks of patterns' Check, Missing and Redundant. Conditions: none. -/
namespace Go.Pt
open Go.Eng Go.RowKit
def badC (R : List (List Ty)) (c : Int) : Bool := match R with
 | [] => false
 | r :: _ => decide (c ≠ (r.length : Int))
def missR (D : List Da) (R : List (List Ty)) (c : Int) : List Ty × Int :=
 if checkE D R ≠ 0 then ([], checkE D R) else if c < 0 ∨ 16 < c ∨ badC R c = true then ([], 1) else ((if (missingE D (wtR R + c.toNat + 1) R c.toNat).2 then (missingE D (wtR R + c.toNat + 1) R c.toNat).1 else []), 0)
theorem check_mat {D : List Da} {R : List (List Ty)} {c : Int} (h : checkE D R = 0) (hc : ¬ (c < 0 ∨ 16 < c ∨ badC R c = true)) : Uniq D ∧ R.length ≤ 64 ∧ wtR R ≤ 800 ∧ Mat D R c.toNat := by
 obtain ⟨h1, h2, h3, cols, h4, h5, h6⟩ := checkE_ok h
 refine ⟨h1, h2, h3, ?_⟩
 cases R with
 | nil => exact ⟨fun r hr => (by cases hr), fun r hr => (by cases hr), fun k => Agr.nil⟩
 | cons r0 rs =>
  have e := h4 r0 rs rfl
  have : badC (r0 :: rs) c = false := by
   cases hb : badC (r0 :: rs) c with
   | false => rfl
   | true => exact absurd (.inr (.inr hb)) hc
  simp only [badC, decide_eq_false_iff_not, Decidable.not_not] at this
  rw [show c.toNat = cols by omega]
  exact h6
end Go.Pt
namespace Go.Proofs.Ytleggdmhihcafaa.pt
open Go.RowKit Go.Eng Go.Pt
set_option maxRecDepth 100000
theorem Check_calls (qd : Option Addr) (cd : Nat) (ds : List (Da × DY)) (q : Option Addr) (cap : Nat) (rs : List (List Ty × PY)) (w : World) (hdl : ds.length ≤ 9223372036854775807) (hd : Arr datR w (low w) ds qd) (hlen : rs.length ≤ 9223372036854775807) (h : Arr patsR w (low w) rs q) :
  Calls Try.prog 8 [.slice qd ds.length cd, .slice q rs.length cap].toArray w fun e w' => e = .returned (.int .i64 (checkE (ds.map Prod.fst) (rs.map Prod.fst))) ∧ Ext w w' := by
 refine enter Try.func8 rfl Try.ntmps8 rfl (Cls.start w) ?_
 obtain ⟨D, hD⟩ : ∃ D, ds.map Prod.fst = D := ⟨_, rfl⟩
 obtain ⟨R, hR⟩ : ∃ R, rs.map Prod.fst = R := ⟨_, rfl⟩
 rw [hD, hR]
 (simp only [argEnv, Nat.zero_add, Nat.reduceAdd])
 apply W.sr
 apply oas; rfl; rfl
 apply OL.nsr
 apply omv; rfl; rfl
 apply omv; rfl; rfl
 refine OL.callE (α := (Option Addr × Nat × Nat) × Option Nat) (fun z => .tuple #[.agg #[.slice z.1.1 z.1.2.1 z.1.2.2, .map z.2], .int .i64 (checkE D R)]) (fun T => True) (fun T => Cls [] [w]) rfl rfl (by exact Args.au) (fun w2 hw2 => ?_) ?_
 ·refine (check_calls qd cd ds q cap rs w2 hdl (hd.at hw2 (.head _) (fun k hk => by exact NotOwned.au)) hlen (h.at hw2 (.head _) (fun k hk => by exact NotOwned.au))).mono (fun e w3 h => ?_)
  rw [hD, hR] at h
  by_cases h0 : checkE D R = 0
  ·rw [if_pos h0] at h
   obtain ⟨hx, T, h1, h2, h3⟩ := h
   exact ⟨((T.q, T.ds.length, T.c), some T.b), by rw [h3, h0]; rfl, trivial, hw2.ext hx⟩
  ·rw [if_neg h0] at h
   exact ⟨((none, 0, 0), none), h.2, trivial, hw2.ext h.1⟩
 rintro ⟨⟨q1, n1, c1⟩, m1⟩ _
 apply omv; rfl; rfl
 apply oex; rfl; rfl; rfl
 apply oex; rfl; rfl; rfl
 apply OL.alloc; rfl; rfl; exact CellsL.agg; (intro bk hbk; simp only [AllLe, and_true] at hbk)
 apply OL.storeB; rfl; rfl; exact CellsL.agg; rfl; rfl; rfl; exact Swap.au; exact Put.au
 apply oas; rfl; rfl
 apply OL.nsr
 apply omv; rfl; rfl
 apply oas; rfl; rfl
 apply OL.nx
 apply W.ret
 ((with_reducible apply At.fin1); rfl; rfl; intro w' hw')
 exact ⟨rfl, by (exact hw'.fr)⟩
theorem Missing_calls (qd : Option Addr) (cd : Nat) (ds : List (Da × DY)) (q : Option Addr) (cap : Nat) (rs : List (List Ty × PY)) (c : Int) (w : World) (hdl : ds.length ≤ 9223372036854775807) (hd : Arr datR w (low w) ds qd) (hlen : rs.length ≤ 9223372036854775807) (h : Arr patsR w (low w) rs q) :
  Calls Try.prog 7 [.slice qd ds.length cd, .slice q rs.length cap, .int .i64 c].toArray w fun e w' => ∃ q' c' ps, e = .returned (.tuple #[.slice q' ps.length c', .int .i64 (missR (ds.map Prod.fst) (rs.map Prod.fst) c).2]) ∧ ps.map Prod.fst = (missR (ds.map Prod.fst) (rs.map Prod.fst) c).1 ∧ ps.length ≤ c' ∧ ps.length ≤ 16 ∧ Arr tyR w' (fresh w w') ps q' ∧ Ext w w' := by
 refine enter Try.func7 rfl Try.ntmps7 rfl (Cls.start w) ?_
 obtain ⟨D, hD⟩ : ∃ D, ds.map Prod.fst = D := ⟨_, rfl⟩
 obtain ⟨R, hR⟩ : ∃ R, rs.map Prod.fst = R := ⟨_, rfl⟩
 have hRl : R.length = rs.length := by rw [← hR, List.length_map]
 rw [hD, hR]
 (simp only [argEnv, Nat.zero_add, Nat.reduceAdd])
 apply W.sr
 apply oas; rfl; rfl
 apply oas; rfl; rfl
 apply OL.nsr
 apply omv; rfl; rfl
 apply omv; rfl; rfl
 by_cases h0 : checkE D R ≠ 0
 ·have hm : missR D R c = ([], checkE D R) := by unfold missR; rw [if_pos h0]
  rw [hm]
  refine OL.callE (α := Unit) (fun z => .tuple #[.agg #[.slice none 0 0, .map none], .int .i64 (checkE D R)]) (fun T => True) (fun T => Cls [] [w]) rfl rfl (by exact Args.au) (fun w2 hw2 => ?_) ?_
  ·refine (check_calls qd cd ds q cap rs w2 hdl (hd.at hw2 (.head _) (fun k hk => by exact NotOwned.au)) hlen (h.at hw2 (.head _) (fun k hk => by exact NotOwned.au))).mono (fun e w3 h => ?_)
   rw [hD, hR, if_neg h0] at h
   exact ⟨(), h.2, trivial, hw2.ext h.1⟩
  intro _ _
  apply omv; rfl; rfl
  apply oex; rfl; rfl; rfl
  apply oex; rfl; rfl; rfl
  apply OL.alloc; rfl; rfl; exact CellsL.agg; (intro bk hbk; simp only [AllLe, and_true] at hbk)
  apply OL.storeB; rfl; rfl; exact CellsL.agg; rfl; rfl; rfl; exact Swap.au; exact Put.au
  apply oas; rfl; rfl
  apply OL.nx
  apply W.sb
  apply W.sr
  apply omv; rfl; rfl
  apply obn; rfl; rfl; rfl; apply Bin.neq
  apply oas; rfl; rfl
  apply OL.nx
  refine W.cond rfl (fun _ => ?_) (fun hb => by simp at hb; omega)
  apply W.sr
  apply omv; rfl; rfl
  apply oas; rfl; rfl
  apply oas; rfl; rfl
  apply OL.nx
  refine W.rt ?_
  ((with_reducible apply At.fin2); rfl; rfl; rfl; intro w' hw')
  exact ⟨none, 0, [], rfl, rfl, Nat.le_refl _, Nat.zero_le _, Arr.nil, by (exact hw'.fr)⟩
 have h0 : checkE D R = 0 := Decidable.not_not.1 h0
 refine OL.callE (α := TT × World) (fun z => .tuple #[.agg #[.slice z.1.q z.1.ds.length z.1.c, .map (some z.1.b)], .int .i64 0]) (fun z => z.1.ds = ds ∧ z.1.ok z.2 ∧ Ext w z.2) (fun z => Cls [] [z.2, w]) rfl rfl (by exact Args.au) (fun w2 hw2 => ?_) ?_
 ·refine (check_calls qd cd ds q cap rs w2 hdl (hd.at hw2 (.head _) (fun k hk => by exact NotOwned.au)) hlen (h.at hw2 (.head _) (fun k hk => by exact NotOwned.au))).mono (fun e w3 h => ?_)
  rw [hD, hR, if_pos h0] at h
  obtain ⟨hx, T, h1, h2, h3⟩ := h
  exact ⟨(T, w3), h3, ⟨h1, h2, (hw2.ext hx).toExt (.head _) (fun k hk => .nil)⟩, (hw2.ext hx).note⟩
 rintro ⟨T, w1⟩ ⟨hTd, hT1, hx1⟩
 simp only at hTd hT1 hx1 ⊢
 have hw1s := hx1.size
 have hTD : T.D = D := by rw [← hD, ← hTd]; rfl
 apply omv; rfl; rfl
 apply oex; rfl; rfl; rfl
 apply oex; rfl; rfl; rfl
 apply OL.alloc; rfl; rfl; exact CellsL.agg; (intro bk hbk; simp only [AllLe, and_true] at hbk)
 apply OL.storeB; rfl; rfl; exact CellsL.agg; rfl; rfl; rfl; exact Swap.au; exact Put.au
 apply oas; rfl; rfl
 apply OL.nx
 apply W.sb
 apply W.sr
 apply omv; rfl; rfl
 apply obn; rfl; rfl; rfl; apply Bin.neq
 apply oas; rfl; rfl
 apply OL.nx
 refine W.cond rfl (fun hb => by simp at hb) (fun _ => ?_)
 by_cases hr0 : rs.length = 0
 ·have hbc : badC R c = false := by
   cases R with
   | nil => rfl
   | cons r t => simp at hRl; omega
  simp only [hr0]
  apply W.sr
  apply omv; rfl; rfl
  apply obn; rfl; rfl; rfl; apply Bin.lss
  apply omv; rfl; rfl
  apply ono; rfl; rfl; rfl; apply Pev.move; rfl; exact yes
  apply ono; rfl; rfl; rfl; apply Pev.bin; rfl; exact fun h => h; rfl; exact yes; intro hcond; apply Bin.gtr
  apply oop; rfl; apply Pev.pick_or; rfl; exact yes; rfl; exact fun h => h
  apply omv; rfl; rfl
  apply ono; rfl; rfl; rfl; apply Pev.move; rfl; exact yes
  apply ono; rfl; rfl; rfl; apply Pev.len_slice; rfl; exact fun h => h; rfl
  apply ono; rfl; rfl; rfl; apply Pev.bin; rfl; exact fun h => h; rfl; exact yes; intro hcond; apply Bin.gtr
  apply ono; rfl; rfl; rfl; apply Pev.move; rfl; exact fun h => h
  apply OL.op; exact Guard.cyes rfl rfl; rfl; rfl; apply Pev.move; rfl; exact yes
  apply OL.op; exact Guard.cyes rfl rfl; rfl; rfl; apply Pev.move; rfl; exact yes
  apply OL.gateOff; exact Guard.cyes rfl rfl; (focus (simp; done)); rfl
  apply OL.gateOff; exact Guard.cyes rfl rfl; (focus (simp; done)); rfl
  apply OL.gateOff; exact Guard.cyes rfl rfl; (focus (simp; done)); rfl
  apply OL.gateOff; exact Guard.cyes rfl rfl; (focus (simp; done)); rfl
  apply ono; rfl; rfl; rfl; apply Pev.pick_off; rfl; exact fun h => h; (intro hcond; rfl); rfl; exact yes
  apply oop; rfl; apply Pev.pick_or; rfl; exact yes; rfl; exact fun h => h
  apply oas; rfl; rfl
  apply OL.nx
  refine W.cond rfl (fun hb => ?_) (fun hb => ?_)
  ·have hbad : c < 0 ∨ 16 < c ∨ badC R c = true := by
    rw [hbc]
    simpa [or_assoc] using hb
   have hm : missR D R c = ([], 1) := by unfold missR; rw [if_neg (by simp [h0]), if_pos hbad]
   rw [hm]
   apply W.sr
   apply oas; rfl; rfl
   apply oas; rfl; rfl
   apply OL.nx
   refine W.rt ?_
   ((with_reducible apply At.fin2); rfl; rfl; rfl; intro w' hw')
   exact ⟨none, 0, [], rfl, rfl, Nat.le_refl _, Nat.zero_le _, Arr.nil, hw'.toExt (s := w) (.tail _ (.head _)) (fun k hk => NotOwned.blk (by omega) .nil)⟩
  have hgood : ¬ (c < 0 ∨ 16 < c ∨ badC R c = true) := by
   rw [hbc]
   simpa [or_assoc, not_or, and_assoc] using hb
  obtain ⟨hU, hR64, hwt, hM⟩ := check_mat h0 hgood
  have hcn : c = ((c.toNat : Nat) : Int) := by omega
  have hm : missR D R c = ((if (missingE D (wtR R + c.toNat + 1) R c.toNat).2 then (missingE D (wtR R + c.toNat + 1) R c.toNat).1 else []), 0) := by unfold missR; rw [if_neg (by simp [h0]), if_neg hgood]
  rw [hm]
  apply W.skip
  with_reducible apply At.in_normal
  with_reducible apply At.next
  apply W.sr
  apply oop; rfl; apply Pev.load_blkA; rfl; exact yes; exact .head _; rfl; exact Take.au
  apply omv; rfl; rfl
  apply omv; rfl; rfl
  have hH1 : ∀ k, k < w1.heap.size → NotOwned [blk bk 55 [.slice T.q T.ds.length T.c, .map (some T.b)]] k := fun k hk => NotOwned.blk (by omega) .nil
  obtain ⟨ms, hms⟩ : ∃ ms, missingE D (wtR R + c.toNat + 1) R c.toNat = ms := ⟨_, rfl⟩
  rw [hms]
  refine OL.callE (α := (Option Addr × Nat × List (Ty × PY)) × Nat × Nat) (fun z => .tuple #[.slice z.1.1 z.1.2.2.length z.1.2.1, .bool ms.2]) (fun z => z.1.2.2.map Prod.fst = ms.1 ∧ z.1.2.2.length ≤ z.1.2.1 ∧ z.1.2.2.length ≤ c.toNat ∧ w1.heap.size ≤ z.2.1) (fun z => Cls [arrI z.2.1 (fun k => k < z.2.2) z.1.2.2 z.1.1, blk bk 55 [.slice T.q T.ds.length T.c, .map (some T.b)]] [w1, w]) rfl rfl (by exact Args.au) (fun w2 hw2 => ?_) ?_
  ·have hc := missing_calls T (wtR R + c.toNat + 1) q cap c.toNat rs w2 (hT1.at hw2 (.head _) hH1) (by omega) ((h).at hw2 (.tail _ (.head _)) (fun k hk => hH1 k (by omega))) (by rw [hTD, hR]; exact hM) (by rw [hR]; omega) (by rw [hR]; omega)
   rw [hTD, hR, hms, ← hcn, hr0] at hc
   refine hc.mono ?_
   rintro e w3 ⟨q', c', ps, h1, h2, h3, h4, h5, h6⟩
   exact ⟨((q', c', ps), w2.heap.size, w3.heap.size), h1, ⟨h2, h3, h4, (hw2.kp w1 (.head _)).size⟩, Cls.arrI hw2 h6 h5⟩
  rintro ⟨⟨q4, c4, p4⟩, lo4, hi4⟩ ⟨hp4, hp4c, hp4l, hlo4⟩
  simp only at hp4 hp4c hp4l hlo4 ⊢
  apply omv; rfl; rfl
  apply oex; rfl; rfl; rfl
  apply oex; rfl; rfl; rfl
  apply oas; rfl; rfl
  apply oas; rfl; rfl
  apply OL.nx
  apply W.seq
  apply W.sr
  apply omv; rfl; rfl
  apply oop; rfl; apply Pev.not; rfl; exact yes
  apply OL.nx
  have hHx : ∀ k, k < w.heap.size → NotOwned [arrI lo4 (fun k => k < hi4) p4 q4, blk bk 55 [.slice T.q T.ds.length T.c, .map (some T.b)]] k := fun k hk => NotOwned.arrI (by omega) (hH1 k (by omega))
  refine W.cond rfl (fun hb => ?_) (fun hb => ?_)
  ·have hb : ms.2 = false := by simpa using hb
   rw [if_neg (by rw [hb]; decide)]
   apply W.sr
   apply oas; rfl; rfl
   apply oas; rfl; rfl
   apply OL.nx
   refine W.rt ?_
   ((with_reducible apply At.fin2); rfl; rfl; rfl; intro w' hw')
   exact ⟨none, 0, [], rfl, rfl, Nat.le_refl _, Nat.zero_le _, Arr.nil, hw'.toExt (s := w) (.tail _ (.head _)) hHx⟩
  ·have hb : ms.2 = true := by simpa using hb
   rw [if_pos hb]
   apply W.sk
   apply W.sr
   apply omv; rfl; rfl
   apply oas; rfl; rfl
   apply oas; rfl; rfl
   apply OL.nx
   apply W.ret
   ((with_reducible apply At.fin2); rfl; rfl; rfl; intro w' hw')
   refine ⟨q4, c4, p4, rfl, hp4, hp4c, by omega, Arr.mono (fun k hk => ⟨by have := hk.1; omega, hw'.lt (arrI lo4 (fun k => k < hi4) p4 q4) (.head _) k hk⟩) (hw'.item (i := arrI lo4 (fun k => k < hi4) p4 q4) (.head _)), hw'.toExt (s := w) (.tail _ (.head _)) hHx⟩
 obtain ⟨a, u, hqa, hab, hu, hcell, hok⟩ := h.get (i := 0) (by omega)
 have hcell : w.cell? (a.add (0 * 1)) = some (.slice u.2.1 u.1.length u.2.2) := hcell 0 _ rfl
 have hbc : badC R c = decide (c ≠ (u.1.length : Int)) := by
  have hRu : R[0]? = some u.1 := by rw [← hR, List.getElem?_map, hu]; rfl
  cases R with
  | nil => cases hRu
  | cons r t =>
   simp only [List.getElem?_cons_zero, Option.some.injEq] at hRu
   subst hRu
   rfl
 rw [hqa]
 apply W.sr
 apply omv; rfl; rfl
 apply obn; rfl; rfl; rfl; apply Bin.lss
 apply omv; rfl; rfl
 apply ono; rfl; rfl; rfl; apply Pev.move; rfl; exact yes
 apply ono; rfl; rfl; rfl; apply Pev.bin; rfl; exact fun h => h; rfl; exact yes; intro hcond; apply Bin.gtr
 apply oop; rfl; apply Pev.pick_or; rfl; exact yes; rfl; exact fun h => h
 apply omv; rfl; rfl
 apply ono; rfl; rfl; rfl; apply Pev.move; rfl; exact yes
 apply ono; rfl; rfl; rfl; apply Pev.len_slice; rfl; exact fun h => h; rfl
 apply ono; rfl; rfl; rfl; apply Pev.bin; rfl; exact fun h => h; rfl; exact yes; intro hcond; apply Bin.gtr
 apply ono; rfl; rfl; rfl; apply Pev.move; rfl; exact fun h => h
 apply OL.op; exact Guard.cyes rfl rfl; rfl; rfl; apply Pev.move; rfl; exact yes
 apply OL.op; exact Guard.cyes rfl rfl; rfl; rfl; apply Pev.move; rfl; exact yes
 apply OL.op; exact Guard.cyes rfl rfl; rfl; rfl; apply Pev.idx; rfl; exact fun h => h; rfl; exact yes; rfl; rfl; intro hcond; (simp only [Bool.and_eq_true, Bool.or_eq_true, Bool.not_eq_true', decide_eq_true_eq, decide_eq_false_iff_not] at *; omega)
 apply OL.op; exact Guard.cyes rfl rfl; rfl; rfl; apply Pev.load_kept; rfl; exact fun h => h; exact .tail _ (.head _); rfl; intro hcond; assumption; intro hcond; assumption; intro hcond; exact NotOwned.au
 apply OL.op; exact Guard.cyes rfl rfl; rfl; rfl; apply Pev.len_slice; rfl; exact fun h => h; rfl
 apply OL.op; exact Guard.cyes rfl rfl; rfl; rfl; apply Pev.bin; rfl; exact fun h => h; rfl; exact fun h => h; intro hcond; apply Bin.neq
 apply ono; rfl; rfl; rfl; apply Pev.pick_and; rfl; exact fun h => h; rfl; exact fun h => h
 apply oop; rfl; apply Pev.pick_or; rfl; exact yes; rfl; exact fun h => h
 apply oas; rfl; rfl
 apply OL.nx
 refine W.cond rfl (fun hb => ?_) (fun hb => ?_)
 ·have hbad : c < 0 ∨ 16 < c ∨ badC R c = true := by
   rw [hbc]
   rw [show decide ((0 : Int) < (rs.length : Int)) = true by simp; omega, Bool.true_and] at hb
   simpa [or_assoc] using hb
  have hm : missR D R c = ([], 1) := by unfold missR; rw [if_neg (by simp [h0]), if_pos hbad]
  rw [hm]
  apply W.sr
  apply oas; rfl; rfl
  apply oas; rfl; rfl
  apply OL.nx
  refine W.rt ?_
  ((with_reducible apply At.fin2); rfl; rfl; rfl; intro w' hw')
  exact ⟨none, 0, [], rfl, rfl, Nat.le_refl _, Nat.zero_le _, Arr.nil, hw'.toExt (s := w) (.tail _ (.head _)) (fun k hk => NotOwned.blk (by omega) .nil)⟩
 have hgood : ¬ (c < 0 ∨ 16 < c ∨ badC R c = true) := by
  rw [hbc]
  rw [show decide ((0 : Int) < (rs.length : Int)) = true by simp; omega, Bool.true_and] at hb
  simpa [or_assoc, not_or, and_assoc] using hb
 obtain ⟨hU, hR64, hwt, hM⟩ := check_mat h0 hgood
 have hcn : c = ((c.toNat : Nat) : Int) := by omega
 have hm : missR D R c = ((if (missingE D (wtR R + c.toNat + 1) R c.toNat).2 then (missingE D (wtR R + c.toNat + 1) R c.toNat).1 else []), 0) := by unfold missR; rw [if_neg (by simp [h0]), if_neg hgood]
 rw [hm]
 apply W.skip
 with_reducible apply At.in_normal
 with_reducible apply At.next
 apply W.sr
 apply oop; rfl; apply Pev.load_blkA; rfl; exact yes; exact .head _; rfl; exact Take.au
 apply omv; rfl; rfl
 apply omv; rfl; rfl
 have hH1 : ∀ k, k < w1.heap.size → NotOwned [blk bk 55 [.slice T.q T.ds.length T.c, .map (some T.b)]] k := fun k hk => NotOwned.blk (by omega) .nil
 obtain ⟨ms, hms⟩ : ∃ ms, missingE D (wtR R + c.toNat + 1) R c.toNat = ms := ⟨_, rfl⟩
 rw [hms]
 refine OL.callE (α := (Option Addr × Nat × List (Ty × PY)) × Nat × Nat) (fun z => .tuple #[.slice z.1.1 z.1.2.2.length z.1.2.1, .bool ms.2]) (fun z => z.1.2.2.map Prod.fst = ms.1 ∧ z.1.2.2.length ≤ z.1.2.1 ∧ z.1.2.2.length ≤ c.toNat ∧ w1.heap.size ≤ z.2.1) (fun z => Cls [arrI z.2.1 (fun k => k < z.2.2) z.1.2.2 z.1.1, blk bk 55 [.slice T.q T.ds.length T.c, .map (some T.b)]] [w1, w]) rfl rfl (by exact Args.au) (fun w2 hw2 => ?_) ?_
 ·have hc := missing_calls T (wtR R + c.toNat + 1) (some a) cap c.toNat rs w2 (hT1.at hw2 (.head _) hH1) (by omega) (((by rw [← hqa]; exact h : Arr patsR w (low w) rs (some a))).at hw2 (.tail _ (.head _)) (fun k hk => hH1 k (by omega))) (by rw [hTD, hR]; exact hM) (by rw [hR]; omega) (by rw [hR]; omega)
  rw [hTD, hR, hms, ← hcn] at hc
  refine hc.mono ?_
  rintro e w3 ⟨q', c', ps, h1, h2, h3, h4, h5, h6⟩
  exact ⟨((q', c', ps), w2.heap.size, w3.heap.size), h1, ⟨h2, h3, h4, (hw2.kp w1 (.head _)).size⟩, Cls.arrI hw2 h6 h5⟩
 rintro ⟨⟨q4, c4, p4⟩, lo4, hi4⟩ ⟨hp4, hp4c, hp4l, hlo4⟩
 simp only at hp4 hp4c hp4l hlo4 ⊢
 apply omv; rfl; rfl
 apply oex; rfl; rfl; rfl
 apply oex; rfl; rfl; rfl
 apply oas; rfl; rfl
 apply oas; rfl; rfl
 apply OL.nx
 apply W.seq
 apply W.sr
 apply omv; rfl; rfl
 apply oop; rfl; apply Pev.not; rfl; exact yes
 apply OL.nx
 have hHx : ∀ k, k < w.heap.size → NotOwned [arrI lo4 (fun k => k < hi4) p4 q4, blk bk 55 [.slice T.q T.ds.length T.c, .map (some T.b)]] k := fun k hk => NotOwned.arrI (by omega) (hH1 k (by omega))
 refine W.cond rfl (fun hb => ?_) (fun hb => ?_)
 ·have hb : ms.2 = false := by simpa using hb
  rw [if_neg (by rw [hb]; decide)]
  apply W.sr
  apply oas; rfl; rfl
  apply oas; rfl; rfl
  apply OL.nx
  refine W.rt ?_
  ((with_reducible apply At.fin2); rfl; rfl; rfl; intro w' hw')
  exact ⟨none, 0, [], rfl, rfl, Nat.le_refl _, Nat.zero_le _, Arr.nil, hw'.toExt (s := w) (.tail _ (.head _)) hHx⟩
 ·have hb : ms.2 = true := by simpa using hb
  rw [if_pos hb]
  apply W.sk
  apply W.sr
  apply omv; rfl; rfl
  apply oas; rfl; rfl
  apply oas; rfl; rfl
  apply OL.nx
  apply W.ret
  ((with_reducible apply At.fin2); rfl; rfl; rfl; intro w' hw')
  refine ⟨q4, c4, p4, rfl, hp4, hp4c, by omega, Arr.mono (fun k hk => ⟨by have := hk.1; omega, hw'.lt (arrI lo4 (fun k => k < hi4) p4 q4) (.head _) k hk⟩) (hw'.item (i := arrI lo4 (fun k => k < hi4) p4 q4) (.head _)), hw'.toExt (s := w) (.tail _ (.head _)) hHx⟩
end Go.Proofs.Ytleggdmhihcafaa.pt

/- The walk of patterns.Redundant. Conditions: none. -/
namespace Go.Pt
open Go.Eng Go.RowKit
def redB (D : List Da) (R : List (List Ty)) (k : Nat) : Bool := match R[k]? with
 | some r => !usefulE D (wtR (R.take k) + wtA r + r.length + 1) (R.take k) r
 | none => false
def redL (D : List Da) (R : List (List Ty)) (n : Nat) : List Int := ((List.range n).filter fun k => redB D R k).map fun (k : Nat) => (k : Int)
def redR (D : List Da) (R : List (List Ty)) : List Int × Int := if checkE D R ≠ 0 then ([], checkE D R) else (redL D R R.length, 0)
theorem redL_succ (D : List Da) (R : List (List Ty)) (n : Nat) : redL D R (n + 1) = redL D R n ++ if redB D R n then [(n : Int)] else [] := by
 unfold redL
 rw [List.range_succ, List.filter_append, List.map_append]
 congr 1
 cases h : redB D R n <;> simp [h]
theorem redL_len (D : List Da) (R : List (List Ty)) (n : Nat) : (redL D R n).length ≤ n := by
 unfold redL
 rw [List.length_map]
 have := List.length_filter_le (fun k => redB D R k) (List.range n)
 rw [List.length_range] at this
 exact this
theorem check_row {D : List Da} {R : List (List Ty)} {k : Nat} {r : List Ty} (h : checkE D R = 0) (hr : R[k]? = some r) : Uniq D ∧ R.length ≤ 64 ∧ wtR R ≤ 800 ∧ r.length ≤ 16 ∧ Mat D (r :: R.take k) r.length ∧ wtR (R.take k) + wtA r ≤ 1600 := by
 obtain ⟨h1, h2, h3, cols, h4, h5, h6⟩ := checkE_ok h
 have hm := List.mem_of_getElem? hr
 have e := h6.len r hm
 have hwr : wtA r ≤ wtR R := wtR_mem hm
 have hwt : ∀ (k : Nat) (R : List (List Ty)), wtR (R.take k) ≤ wtR R := fun k => by
  induction k with
  | zero => intro R; simp [wtR]
  | succ k ih =>
   intro R
   cases R with
   | nil => simp
   | cons x t =>
    have := ih t
    rw [List.take_succ_cons, wtR, wtR]
    omega
 have := hwt k R
 refine ⟨h1, h2, h3, by omega, ?_, by omega⟩
 rw [e]
 refine h6.mono (fun s hs => ?_)
 rcases List.mem_cons.1 hs with rfl | hs
 ·exact hm
 ·exact List.mem_of_mem_take hs
end Go.Pt
namespace Go.Proofs.Ytleggdmhihcafaa.pt
open Go.RowKit Go.Eng Go.Pt
set_option maxRecDepth 100000
theorem Redundant_calls (qd : Option Addr) (cd : Nat) (ds : List (Da × DY)) (q : Option Addr) (cap : Nat) (rs : List (List Ty × PY)) (w : World) (hdl : ds.length ≤ 9223372036854775807) (hd : Arr datR w (low w) ds qd) (hlen : rs.length ≤ 9223372036854775807) (hcap : rs.length ≤ cap) (h : Arr patsR w (low w) rs q) :
  Calls Try.prog 11 [.slice qd ds.length cd, .slice q rs.length cap].toArray w fun e w' => ∃ q' c', e = .returned (.tuple #[.slice q' (redR (ds.map Prod.fst) (rs.map Prod.fst)).1.length c', .int .i64 (redR (ds.map Prod.fst) (rs.map Prod.fst)).2]) ∧ IntsO w' (fresh w w') (redR (ds.map Prod.fst) (rs.map Prod.fst)).1 q' ∧ Ext w w' := by
 refine enter Try.func11 rfl Try.ntmps11 rfl (Cls.start w) ?_
 obtain ⟨D, hD⟩ : ∃ D, ds.map Prod.fst = D := ⟨_, rfl⟩
 obtain ⟨R, hR⟩ : ∃ R, rs.map Prod.fst = R := ⟨_, rfl⟩
 have hRl : R.length = rs.length := by rw [← hR, List.length_map]
 rw [hD, hR]
 (simp only [argEnv, Nat.zero_add, Nat.reduceAdd])
 apply W.sr
 apply oas; rfl; rfl
 apply oas; rfl; rfl
 apply OL.nsr
 apply omv; rfl; rfl
 apply omv; rfl; rfl
 by_cases h0 : checkE D R ≠ 0
 ·have hm : redR D R = ([], checkE D R) := by unfold redR; rw [if_pos h0]
  rw [hm]
  refine OL.callE (α := Unit) (fun z => .tuple #[.agg #[.slice none 0 0, .map none], .int .i64 (checkE D R)]) (fun T => True) (fun T => Cls [] [w]) rfl rfl (by exact Args.au) (fun w2 hw2 => ?_) ?_
  ·refine (check_calls qd cd ds q cap rs w2 hdl (hd.at hw2 (.head _) (fun k hk => by exact NotOwned.au)) hlen (h.at hw2 (.head _) (fun k hk => by exact NotOwned.au))).mono (fun e w3 h => ?_)
   rw [hD, hR, if_neg h0] at h
   exact ⟨(), h.2, trivial, hw2.ext h.1⟩
  intro _ _
  apply omv; rfl; rfl
  apply oex; rfl; rfl; rfl
  apply oex; rfl; rfl; rfl
  apply OL.alloc; rfl; rfl; exact CellsL.agg; (intro bk hbk; simp only [AllLe, and_true] at hbk)
  apply OL.storeB; rfl; rfl; exact CellsL.agg; rfl; rfl; rfl; exact Swap.au; exact Put.au
  apply oas; rfl; rfl
  apply OL.nx
  apply W.seq
  apply W.sr
  apply omv; rfl; rfl
  apply obn; rfl; rfl; rfl; apply Bin.neq
  apply OL.nx
  refine W.cond rfl (fun _ => ?_) (fun hb => by simp at hb; omega)
  apply W.sr
  apply omv; rfl; rfl
  apply oas; rfl; rfl
  apply oas; rfl; rfl
  apply OL.nx
  refine W.rt ?_
  ((with_reducible apply At.fin2); rfl; rfl; rfl; intro w' hw')
  exact ⟨none, 0, rfl, IntsO.nil, by (exact hw'.fr)⟩
 have h0 : checkE D R = 0 := Decidable.not_not.1 h0
 have hm : redR D R = (redL D R R.length, 0) := by unfold redR; rw [if_neg (by simp [h0])]
 rw [hm]
 refine OL.callE (α := TT × World) (fun z => .tuple #[.agg #[.slice z.1.q z.1.ds.length z.1.c, .map (some z.1.b)], .int .i64 0]) (fun z => z.1.ds = ds ∧ z.1.ok z.2 ∧ Ext w z.2) (fun z => Cls [] [z.2, w]) rfl rfl (by exact Args.au) (fun w2 hw2 => ?_) ?_
 ·refine (check_calls qd cd ds q cap rs w2 hdl (hd.at hw2 (.head _) (fun k hk => by exact NotOwned.au)) hlen (h.at hw2 (.head _) (fun k hk => by exact NotOwned.au))).mono (fun e w3 h => ?_)
  rw [hD, hR, if_pos h0] at h
  obtain ⟨hx, T, h1, h2, h3⟩ := h
  exact ⟨(T, w3), h3, ⟨h1, h2, (hw2.ext hx).toExt (.head _) (fun k hk => .nil)⟩, (hw2.ext hx).note⟩
 rintro ⟨T, w1⟩ ⟨hTd, hT1, hx1⟩
 simp only at hTd hT1 hx1 ⊢
 have hw1s := hx1.size
 have hTD : T.D = D := by rw [← hD, ← hTd]; rfl
 obtain ⟨_, hR64, _⟩ := checkE_ok h0
 apply omv; rfl; rfl
 apply oex; rfl; rfl; rfl
 apply oex; rfl; rfl; rfl
 apply OL.alloc; rfl; rfl; exact CellsL.agg; (intro bk hbk; simp only [AllLe, and_true] at hbk)
 apply OL.storeB; rfl; rfl; exact CellsL.agg; rfl; rfl; rfl; exact Swap.au; exact Put.au
 apply oas; rfl; rfl
 apply OL.nx
 apply W.seq
 apply W.sr
 apply omv; rfl; rfl
 apply obn; rfl; rfl; rfl; apply Bin.neq
 apply OL.nx
 refine W.cond rfl (fun hb => by simp at hb) (fun _ => ?_)
 apply W.sk
 apply W.sr
 apply oas; rfl; rfl
 apply OL.nx
 apply W.seq
 apply W.sr
 apply omv; rfl; rfl
 apply oop; rfl; apply Pev.len_slice; rfl; exact yes; rfl
 apply omv; rfl; rfl
 apply OL.nx
 apply W.block
 revert bk
 intro b6 hb6
 refine W.loop (G := Nat × (Nat → Prop) × Option Addr × Nat) (fun g => g.1 ≤ rs.length) (fun g => rs.length - g.1)
  (fun g => [(1, true, .slice q rs.length cap), (6, true, .pointer (some ⟨b6, 0, none⟩)), (8, true, .slice g.2.2.1 (redL D R g.1).length g.2.2.2), (20, true, .slice q rs.length cap), (21, true, .int .i64 (rs.length : Int)), (22, true, .int .i64 (g.1 : Int))])
  (fun g => Cls [row w1.heap.size g.2.1 g.2.2.1 (redL D R g.1).length g.2.2.2 3 1 (intV (redL D R g.1)), blk b6 55 [.slice T.q T.ds.length T.c, .map (some T.b)]] [w1, w]) (0, fun _ => False, none, 0) (Nat.zero_le _) (by exact Sub.au) (fun w' hw' => hw'.row_nil w1.heap.size 3 1) ?_
 rintro ⟨i, O, q1, c1⟩ hi
 simp only at hi ⊢
 have hrl := redL_len D R i
 apply W.sr
 apply obn; rfl; rfl; rfl; apply Bin.lss
 apply OL.nx
 apply W.seq
 (refine W.cnd (fun hlt => ?_) (fun hlt => ?_)) <;> (try (exfalso; first | omega | exact hlt trivial | contradiction))
 ·obtain ⟨a, u, hqa, hab, hu, hcell, hok⟩ := h.get (show i < rs.length by omega)
  have hcell : w.cell? (a.add (i * 1)) = some (.slice u.2.1 u.1.length u.2.2) := hcell 0 _ rfl
  have hRu : R[i]? = some u.1 := by rw [← hR, List.getElem?_map, hu]; rfl
  obtain ⟨⟨pr, hpr, hpra⟩, hrc, hrl2⟩ := hok
  have hprl : pr.length = u.1.length := by rw [← hpr, List.length_map]
  obtain ⟨hU, _, hwt, hl16, hM, hsum⟩ := check_row h0 hRu
  have hti : (rs.take i).length = i := by rw [List.length_take]; omega
  have htm : (rs.take i).map Prod.fst = R.take i := by rw [← hR, List.map_take]
  have hst := redL_succ D R i
  have hrb : redB D R i = !usefulE D (wtR (R.take i) + wtA u.1 + u.1.length + 1) (R.take i) u.1 := by unfold redB; rw [hRu]
  have hH : ∀ k, k < w1.heap.size → NotOwned [row w1.heap.size O q1 (redL D R i).length c1 3 1 (intV (redL D R i)), blk b6 55 [.slice T.q T.ds.length T.c, .map (some T.b)]] k := fun k hk => NotOwned.row (by omega) (NotOwned.blk (by omega) .nil)
  rw [hqa]
  apply W.sk
  apply W.sb
  apply W.sr
  apply omv; rfl; rfl
  apply oop; rfl; apply Pev.idx; rfl; exact yes; rfl; exact yes; rfl; rfl; intro hcond; omega
  apply oop; rfl; apply Pev.load_kept; rfl; exact yes; exact .tail _ (.head _); rfl; intro hcond; assumption; intro hcond; (rw [add_block]; assumption); intro hcond; exact NotOwned.au
  apply oas; rfl; rfl
  apply oas; rfl; rfl
  apply OL.nx
  apply W.seq
  apply W.regd0; decide +kernel; kernel_rfl; decide +kernel; exact fun w hw => hw.drew
  apply qop; rfl; apply Pev.load_blkA; rfl; exact yes; exact .tail _ (.head _); rfl; exact Take.au
  apply qmv; rfl; rfl
  apply qmv; rfl; rfl
  apply qop; rfl; apply Pev.slice_hi; rfl; exact yes; rfl; exact yes; rfl; rfl; intro hcond; omega
  apply qmv; rfl; rfl
  (((first | (with_reducible apply OL.op) | (with_reducible apply QL.op)); (exact Guard.au); rfl; rfl); (refine Pev.call (v := .bool (!redB D R i)) (vs := [.agg #[.slice T.q T.ds.length T.c, .map (some T.b)], .slice (some a) i cap, .slice u.2.1 u.1.length u.2.2]) rfl (by exact Args.au) (fun _ w2 hw2 => ?_)))
  ·have hc := useful_calls T (wtR (R.take i) + wtA u.1 + u.1.length + 1) (some a) cap (rs.take i) u.2.1 u.2.2 pr w2 (hT1.at hw2 (.head _) hH) (by omega) (((by rw [← hqa]; exact h.take i : Arr patsR w (low w) (rs.take i) (some a))).at hw2 (.tail _ (.head _)) (fun k hk => hH k (by omega))) (hpra.at hw2 (.tail _ (.head _)) (fun k hk => hH k (by omega))) (by omega) (by rw [hTD, htm, hprl, hpr]; exact hM) (by rw [htm, hpr, hprl]; omega) (by rw [htm, hpr, hprl]; omega)
   rw [hTD, htm, hpr, hti, hprl] at hc
   unfold TT.v at hc
   rw [hrb, Bool.not_not]
   exact hc.mono (fun e w3 h => ⟨h.1, hw2.ext h.2⟩)
  apply qop; rfl; apply Pev.not; rfl; exact yes
  apply QL.nil
  with_reducible apply At.next
  refine W.cond rfl (fun hb => ?_) (fun hb => ?_)
  ·have hb : redB D R i = true := by simpa using hb
   rw [if_pos hb] at hst
   have e1 : (redL D R i).length + 1 = (redL D R (i + 1)).length := by rw [hst]; simp
   have e2 : intV (redL D R i) ++ [Value.int .i64 (i : Int)] = intV (redL D R (i + 1)) := by rw [hst, intV_append]; rfl
   apply W.reg
   apply omv; rfl; rfl
   apply omv; rfl; rfl
   apply OL.buildSlice; rfl; rfl; rfl; exact Elems.au; rfl; rfl; (intro bk hbk; simp only [AllLe, and_true] at hbk)
   apply OL.append; rfl; rfl; rfl; rfl; exact Hole.au; exact .head _; exact Take.au; rfl; rfl; exact ⟨_, .head _, Nat.le_refl _⟩; omega; intro O1 g1 cap1
   apply oas; rfl; rfl
   apply OL.nil
   with_reducible apply At.in_normal
   with_reducible apply At.next
   apply W.reg
   apply obn; rfl; rfl; rfl; apply Bin.add_in; omega
   apply omv; rfl; rfl
   apply OL.nil
   rw [e1, e2]
   exact At.again (i + 1, O1, some ⟨g1, 0, none⟩, cap1) (by simp only; omega) (by simp only; omega) (by exact Sub.au) (fun w' hw' => hw'.thin (by exact Thin.au))
  ·have hb : redB D R i = false := by simpa using hb
   rw [hb] at hst
   have hst : redL D R (i + 1) = redL D R i := by rw [hst]; simp
   apply W.skip
   with_reducible apply At.in_normal
   with_reducible apply At.next
   apply W.reg
   apply obn; rfl; rfl; rfl; apply Bin.add_in; omega
   apply omv; rfl; rfl
   apply OL.nil
   exact At.again (i + 1, O, q1, c1) (by simp only; omega) (by simp only; omega) (by simp only [hst]; exact Sub.au) (fun w' hw' => by simp only [hst]; exact hw'.thin (by exact Thin.au))
 ·obtain rfl : i = rs.length := by omega
  refine W.xt ?_
  with_reducible apply At.next
  apply W.sr
  apply omv; rfl; rfl
  apply oas; rfl; rfl
  apply oas; rfl; rfl
  apply OL.nx
  apply W.ret
  ((with_reducible apply At.fin2); rfl; rfl; rfl; intro w' hw')
  rw [hRl]
  refine ⟨q1, c1, rfl, fun hl => ?_, hw'.toExt (s := w) (.tail _ (.head _)) (fun k hk => NotOwned.row (by omega) (NotOwned.blk (by omega) .nil))⟩
  have hr := hw'.item (.head _)
  obtain ⟨a, h1, h2, h3⟩ := SlAt.of_row hr (by rw [intV_length]; exact hl)
  refine ⟨a, h1, ⟨?_, h2⟩, h3⟩
  rcases hr.2.2 with ⟨h4, h5⟩ | ⟨g, cap', cur, h4, h5, _⟩
  ·simp only [Value.slice.injEq] at h4
   rw [h4.1] at h1; cases h1
  ·simp only [Value.slice.injEq] at h4
   rw [h4.1] at h1
   obtain rfl := Option.some.inj h1
   exact Nat.le_trans hw1s h5
end Go.Proofs.Ytleggdmhihcafaa.pt

/- The laws' fixed example. Conditions: none. -/
namespace Go.Pt
open Go.Eng
def nNil : ByteArray := ⟨#[78, 105, 108]⟩
def nCons : ByteArray := ⟨#[67, 111, 110, 115]⟩
def nNope : ByteArray := ⟨#[78, 111, 112, 101]⟩
def listsD : List Da := [⟨[⟨nNil, 0⟩, ⟨nCons, 2⟩]⟩]
def tNil : Ty := .mk 3 nNil 0 []
def tCons : Ty := .mk 3 nCons 0 (anys 2)
def tNope : Ty := .mk 3 nNope 0 []
theorem fix1 : missR listsD [[tNil]] 1 = ([tCons], 0) := by rfl
theorem fix2 : redR listsD [[anyT], [tNil]] = ([1], 0) := by rfl
theorem fix3 : checkE listsD [[tNope]] = 6 := by decide +kernel
end Go.Pt
namespace Go.Proofs.Ytleggdmhihcafaa.pt
open Go.RowKit Go.Eng Go.Pt
set_option maxRecDepth 100000
theorem lists_calls (w : World) :
  Calls Try.prog 18 #[] w fun e w' => ∃ (q : Option Addr) (c : Nat) (ds : List (Da × DY)), e = .returned (.slice q ds.length c) ∧ ds.map Prod.fst = listsD ∧ Arr datR w' (fresh w w') ds q ∧ Ext w w' := by
 refine enter Try.func18 rfl Try.ntmps18 rfl (Cls.start w) ?_
 (simp only [argEnv, Nat.zero_add, Nat.reduceAdd])
 apply W.sr
 apply oas; rfl; rfl
 apply OL.nsr
 apply oop; rfl; apply Pev.build; rfl; exact CellsL.agg; rfl; exact Fill.au; rfl
 refine OL.makeSliceK (f := tyR.c) (x0 := (anyT, (none, 0))) (m := 2) rfl rfl rfl rfl rfl rfl rfl rfl (by omega) (fun b2 hb2 => ?_)
 simp only [AllLe, and_true] at hb2
 apply oop; rfl; apply Pev.build; rfl; exact CellsL.agg; rfl; exact Fill.au; rfl
 apply OL.buildSlice; rfl; rfl; rfl; exact Elems.au; rfl; rfl; (intro bk hbk; simp only [AllLe, and_true] at hbk)
 apply oop; rfl; apply Pev.build; rfl; exact CellsL.agg; rfl; exact Fill.au; rfl
 apply OL.buildSlice; rfl; rfl; rfl; exact Elems.au; rfl; rfl; (intro bk hbk; simp only [AllLe, and_true] at hbk)
 apply oas; rfl; rfl
 apply OL.nx
 apply W.ret
 rename_i b4 hb4
 revert bk
 intro b6 hb6
 ((with_reducible apply At.fin1); rfl; rfl; intro w' hw')
 have hd6 := hw'.item (i := blk b6 89 [.string ⟨#[76, 105, 115, 116]⟩, .int .i64 0, .slice (some ⟨b4, 0, none⟩) 2 2]) (.head _)
 have hd4 := hw'.item (i := blk b4 86 [.string nNil, .slice none 0 0, .string nCons, .slice (some ⟨b2, 0, none⟩) 2 2]) (.tail _ (.head _))
 have hl6 := hw'.lt _ (.head _) b6 rfl
 have hl4 := hw'.lt _ (.tail _ (.head _)) b4 rfl
 refine ⟨some ⟨b6, 0, none⟩, 1, [(⟨[⟨nNil, 0⟩, ⟨nCons, 2⟩]⟩, ⟨⟨#[76, 105, 115, 116]⟩, 0, some ⟨b4, 0, none⟩, 2⟩)], rfl, rfl, ⟨fun _ => ⟨⟨b6, 0, none⟩, rfl, ⟨by omega, hl6⟩, fun m v hm => ?_⟩, fun p hp => ?_⟩, hw'.toExt (.head _) (fun k hk => NotOwned.blk (by omega) (NotOwned.blk (by omega) (NotOwned.blk (by omega) .nil)))⟩
 ·rw [add_mid, blk_cell hd6, Nat.zero_add]
  exact hm
 ·rw [List.mem_singleton] at hp
  rw [hp]
  refine ⟨⟨[(⟨nNil, 0⟩, (none, 0)), (⟨nCons, 2⟩, (some ⟨b2, 0, none⟩, 2))], rfl, ⟨fun _ => ⟨⟨b4, 0, none⟩, rfl, ⟨by omega, hl4⟩, fun m v hm => ?_⟩, fun x hx => ?_⟩⟩, by show 2 ≤ 9223372036854775807; omega⟩
  ·rw [add_mid, blk_cell hd4, Nat.zero_add]
   exact hm
  ·simp only [List.mem_cons, List.not_mem_nil, or_false] at hx
   rcases hx with rfl | rfl
   ·show 0 * 56 ≤ 140737488355328
    omega
   ·show 2 * 56 ≤ 140737488355328
    omega
theorem blk_at {w : World} {b : Nat} {t : TypeId} {cs : List Value} (h : (blk b t cs).holds w) : CellsAt w ⟨b, 0, none⟩ cs := fun j v hj => by
 rw [add_mid, blk_cell h, Nat.zero_add]
 exact hj
theorem arr_cells {α μ : Type} {R : Rel α μ} {w : World} {b : Nat} {l : List (α × μ)} (hc : CellsAt w ⟨b, 0, none⟩ (cat R.c l)) (hb : b < w.heap.size) (hok : ∀ p ∈ l, R.ok w (low w) p.1 p.2) : Arr R w (low w) l (some ⟨b, 0, none⟩) := ⟨fun _ => ⟨⟨b, 0, none⟩, rfl, hb, hc⟩, hok⟩
theorem flat_ok (w : World) (O : Nat → Prop) {k n : Int} {nm : ByteArray} (hk : I64 k) (hn : I64 n) : TyO w O (.mk k nm n []) (none, 0) := TyO.of_parts (ps := []) hk hn (by simp) (Nat.le_refl _) Arr.nil
theorem row_ok {w : World} {b : Nat} {t : Ty} (hc : CellsAt w ⟨b, 0, none⟩ (tyc t (none, 0))) (hb : b < w.heap.size) (ht : TyO w (low w) t (none, 0)) : patsR.ok w (low w) [t] (some ⟨b, 0, none⟩, 1) :=
 ⟨⟨[(t, (none, 0))], rfl, arr_cells (R := tyR) (by rw [show cat tyR.c [(t, ((none, 0) : PY))] = tyc t (none, 0) by simp only [cat, List.append_nil]; rfl]; exact hc) hb (fun p hp => by
  rw [List.mem_singleton] at hp
  rw [hp]
  exact ht)⟩, by simp, by simp⟩
theorem patternsWork_calls (w : World) :
  Calls Try.prog 6 #[] w fun e w' => e = .returned (.bool true) ∧ Ext w w' := by
 refine enter Try.func6 rfl Try.ntmps6 rfl (Cls.start w) ?_
 (simp only [argEnv, Nat.zero_add, Nat.reduceAdd])
 apply W.sr
 apply oas; rfl; rfl
 apply OL.nsr
 apply oop; rfl; apply Pev.build; rfl; exact CellsL.agg; rfl; exact Fill.au; rfl
 apply OL.buildSlice; rfl; rfl; rfl; exact Elems.au; rfl; rfl; (intro bk hbk; simp only [AllLe, and_true] at hbk)
 apply oas; rfl; rfl
 apply OL.nsr
 revert bk
 intro b7 hb7
 refine OL.callE (α := (Option Addr × Nat × List (Da × DY)) × World) (fun y => .slice y.1.1 y.1.2.2.length y.1.2.1) (fun y => y.1.2.2.map Prod.fst = listsD ∧ Arr datR y.2 (low y.2) y.1.2.2 y.1.1 ∧ Ext w y.2 ∧ b7 < y.2.heap.size ∧ CellsAt y.2 ⟨b7, 0, none⟩ (tyc tNil (none, 0))) (fun y => Cls [] [y.2, w]) rfl rfl (by exact Args.au) (fun w2 hw2 => ?_) ?_
 ·refine (lists_calls w2).mono ?_
  rintro e w3 ⟨q', c', ds, h1, h2, h3, h4⟩
  have hx2 := (hw2.ext h4).toExt (s := w) (.head _) (fun k hk => NotOwned.blk (by omega) .nil)
  have hlt := (hw2.ext h4).lt _ (.head _) b7 rfl
  exact ⟨((q', c', ds), w3), h1, ⟨h2, h3.mono (fun k hk => hk.2), hx2, hlt, blk_at ((hw2.ext h4).item (.head _))⟩, ((hw2.ext h4).thin (.blk ⟨hb7, trivial⟩ Thin.same)).note⟩
 rintro ⟨⟨qd, cd, ds⟩, w1⟩ ⟨hds, hda, hx1, hb71, hc71⟩
 simp only at hds hda hx1 hb71 hc71 ⊢
 have hdl : ds.length = 1 := by
  have := congrArg List.length hds
  rw [List.length_map] at this
  exact this
 have hw1s := hx1.size
 apply omv; rfl; rfl
 apply OL.buildSlice; rfl; rfl; rfl; exact Elems.au; rfl; rfl; (intro bk hbk; simp only [AllLe, and_true] at hbk)
 revert bk
 intro b11 hb11
 refine OL.callE (α := (Option Addr × Nat × List (Ty × PY)) × World) (fun y => .tuple #[.slice y.1.1 y.1.2.2.length y.1.2.1, .int .i64 0]) (fun y => y.1.2.2.map Prod.fst = [tCons] ∧ Arr tyR y.2 (low y.2) y.1.2.2 y.1.1 ∧ Ext w1 y.2) (fun y => Cls [] [y.2, w1, w]) rfl rfl (by exact Args.au) (fun w2 hw2 => ?_) ?_
 ·have hH2 : ∀ k, k < w1.heap.size → NotOwned [blk b11 25 [.slice (some ⟨b7, 0, none⟩) 1 1]] k := fun k hk => NotOwned.blk (by omega) .nil
  have hc7 : CellsAt w2 ⟨b7, 0, none⟩ (tyc tNil (none, 0)) := cells_stab (hw2.same (.head _) hH2 b7 hb71) hc71
  have hb7' : b7 < w2.heap.size := hw2.up (.head _) b7 hb71
  have hc := Missing_calls qd cd ds (some ⟨b11, 0, none⟩) 1 [([tNil], ((some ⟨b7, 0, none⟩, 1) : PY))] 1 w2 (by omega) (hda.at hw2 (.head _) hH2) (by simp) (arr_cells (R := patsR) (blk_at (hw2.item (.head _))) (hw2.lt _ (.head _) b11 rfl) (fun p hp => by
   rw [List.mem_singleton] at hp
   rw [hp]
   exact row_ok hc7 hb7' (flat_ok w2 _ (by simp [I64]) (by simp [I64]))))
  rw [hds, show List.map Prod.fst [([tNil], ((some ⟨b7, 0, none⟩, 1) : PY))] = [[tNil]] from rfl, fix1] at hc
  refine hc.mono ?_
  rintro e w3 ⟨q', c', ps, h1, h2, h3, h4, h5, h6⟩
  exact ⟨((q', c', ps), w3), h1, ⟨h2, h5.mono (fun k hk => hk.2), (hw2.ext h6).toExt (.head _) hH2⟩, ((hw2.ext h6).thin (.blk (by simp only [AllLe, and_true]; omega) Thin.same)).note⟩
 rintro ⟨⟨qm, cm, pm⟩, w2⟩ ⟨hpm, hpma, hx2⟩
 simp only at hpm hpma hx2 ⊢
 have hw2s := hx2.size
 have hpml : pm.length = 1 := by
  have := congrArg List.length hpm
  rw [List.length_map] at this
  exact this
 have hb72 : b7 < w2.heap.size := by omega
 have hc72 : CellsAt w2 ⟨b7, 0, none⟩ (tyc tNil (none, 0)) := cells_stab (hx2.block b7 hb71 id) hc71
 apply omv; rfl; rfl
 apply oex; rfl; rfl; rfl
 apply oex; rfl; rfl; rfl
 apply oas; rfl; rfl
 apply oas; rfl; rfl
 apply OL.nsr
 refine OL.callE (α := (Option Addr × Nat × List (Da × DY)) × World) (fun y => .slice y.1.1 y.1.2.2.length y.1.2.1) (fun y => y.1.2.2.map Prod.fst = listsD ∧ Arr datR y.2 (low y.2) y.1.2.2 y.1.1 ∧ Ext w2 y.2) (fun y => Cls [] [y.2, w2, w1, w]) rfl rfl (by exact Args.au) (fun w3 hw3 => ?_) ?_
 ·refine (lists_calls w3).mono ?_
  rintro e w4 ⟨q', c', ds, h1, h2, h3, h4⟩
  exact ⟨((q', c', ds), w4), h1, ⟨h2, h3.mono (fun k hk => hk.2), (hw3.ext h4).toExt (.head _) (fun k hk => .nil)⟩, (hw3.ext h4).note⟩
 rintro ⟨⟨qe, ce, de⟩, w3⟩ ⟨hde, hdea, hx3⟩
 simp only at hde hdea hx3 ⊢
 have hdel : de.length = 1 := by
  have := congrArg List.length hde
  rw [List.length_map] at this
  exact this
 have hw3s := hx3.size
 apply oop; rfl; apply Pev.build; rfl; exact CellsL.agg; rfl; exact Fill.au; rfl
 apply OL.buildSlice; rfl; rfl; rfl; exact Elems.au; rfl; rfl; (intro bk hbk; simp only [AllLe, and_true] at hbk)
 apply omv; rfl; rfl
 apply OL.buildSlice; rfl; rfl; rfl; exact Elems.au; rfl; rfl; (intro bk hbk; simp only [AllLe, and_true] at hbk)
 rename_i b18 hb18
 revert bk
 intro b20 hb20
 refine OL.callE (α := (Option Addr × Nat) × World) (fun y => .tuple #[.slice y.1.1 1 y.1.2, .int .i64 0]) (fun y => IntsO y.2 (low y.2) [1] y.1.1 ∧ Ext w3 y.2) (fun y => Cls [] [y.2, w3, w2, w1, w]) rfl rfl (by exact Args.au) (fun w4 hw4 => ?_) ?_
 ·have hH4 : ∀ k, k < w3.heap.size → NotOwned [blk b20 25 [.slice (some ⟨b18, 0, none⟩) 1 1, .slice (some ⟨b7, 0, none⟩) 1 1], blk b18 50 [.int .i64 0, .string ⟨#[]⟩, .int .i64 0, .slice none 0 0]] k := fun k hk => NotOwned.blk (by omega) (NotOwned.blk (by omega) .nil)
  have hc7 : CellsAt w4 ⟨b7, 0, none⟩ (tyc tNil (none, 0)) := cells_stab (hw4.same (.head _) hH4 b7 (show b7 < w3.heap.size by omega)) (cells_stab (hx3.block b7 hb72 id) hc72)
  have hb7' : b7 < w4.heap.size := hw4.up (.head _) b7 (show b7 < w3.heap.size by omega)
  have hc := Redundant_calls qe ce de (some ⟨b20, 0, none⟩) 2 [([anyT], ((some ⟨b18, 0, none⟩, 1) : PY)), ([tNil], (some ⟨b7, 0, none⟩, 1))] w4 (by omega) (hdea.at hw4 (.head _) hH4) (by simp) (by simp) (arr_cells (R := patsR) (blk_at (hw4.item (.head _))) (hw4.lt _ (.head _) b20 rfl) (fun p hp => by
   simp only [List.mem_cons, List.not_mem_nil, or_false] at hp
   rcases hp with rfl | rfl
   ·exact row_ok (t := anyT) (blk_at (hw4.item (i := blk b18 50 [.int .i64 0, .string ⟨#[]⟩, .int .i64 0, .slice none 0 0]) (.tail _ (.head _)))) (hw4.lt _ (.tail _ (.head _)) b18 rfl) (any_ok w4 _)
   ·exact row_ok hc7 hb7' (flat_ok w4 _ (by simp [I64]) (by simp [I64]))))
  rw [hde, show List.map Prod.fst [([anyT], ((some ⟨b18, 0, none⟩, 1) : PY)), ([tNil], (some ⟨b7, 0, none⟩, 1))] = [[anyT], [tNil]] from rfl, fix2] at hc
  refine hc.mono ?_
  rintro e w5 ⟨q', c', h1, h2, h3⟩
  exact ⟨((q', c'), w5), h1, ⟨h2.mono (fun k hk => hk.2), (hw4.ext h3).toExt (.head _) hH4⟩, ((hw4.ext h3).thin (.blk (by simp only [AllLe, and_true]; omega) (.blk (by simp only [AllLe, and_true]; omega) Thin.same))).note⟩
 rintro ⟨⟨qr, cr⟩, w4⟩ ⟨hri, hx4⟩
 simp only at hri hx4 ⊢
 have hw4s := hx4.size
 apply omv; rfl; rfl
 apply oex; rfl; rfl; rfl
 apply oex; rfl; rfl; rfl
 apply oas; rfl; rfl
 apply oas; rfl; rfl
 apply OL.nsr
 apply omv; rfl; rfl
 apply obn; rfl; rfl; rfl; apply Bin.eql
 apply omv; rfl; rfl
 apply oy; rfl; rfl; rfl; apply Pev.move; rfl; exact yes
 rw [show decide ((0 : Int) = 0) = true from rfl]
 ((apply OL.ungate); (exact Guard.au); rfl)
 refine OL.makeSliceK (f := tyR.c) (x0 := (anyT, (none, 0))) (m := 2) rfl rfl rfl rfl rfl rfl rfl rfl (by omega) (fun b28 hb28 => ?_)
 apply oy; rfl; rfl; rfl; apply Pev.build; rfl; exact CellsL.agg; rfl; exact Fill.au; rfl
 ((apply OL.ungate); (exact Guard.au); rfl)
 apply OL.buildSlice; rfl; rfl; rfl; exact Elems.au; rfl; rfl; (intro bk hbk; simp only [AllLe, and_true] at hbk)
 simp only [AllLe, and_true] at hb28
 revert bk
 intro b30 hb30
 (((first | (with_reducible apply OL.op) | (with_reducible apply QL.op)); (exact Guard.au); rfl; rfl); (refine Pev.call (v := .bool true) rfl (by exact Args.au) (fun _ w5 hw5 => ?_)))
 ·have hH5 : ∀ k, k < w4.heap.size → NotOwned [blk b30 50 [.int .i64 3, .string nCons, .int .i64 0, .slice (some ⟨b28, 0, none⟩) 2 2], blk b28 50 (cat tyR.c (List.replicate 2 (anyT, ((none, 0) : PY))))] k := fun k hk => NotOwned.blk (by omega) (NotOwned.blk (by omega) .nil)
  have hty : TyO w5 (low w5) tCons (some ⟨b28, 0, none⟩, 2) := by
   have := TyO.of_parts (k := 3) (v := 0) (nm := nCons) (cap := 2) (by simp [I64]) (by simp [I64]) (by rw [List.length_replicate]; omega) (by rw [List.length_replicate]; exact Nat.le_refl _) (arr_cells (R := tyR) (blk_at (hw5.item (i := blk b28 50 (cat tyR.c (List.replicate 2 (anyT, ((none, 0) : PY))))) (.tail _ (.head _)))) (hw5.lt _ (.tail _ (.head _)) b28 rfl) (anyl_ok w5 _ 2))
   rw [anyl_map] at this
   exact this
  have hc := SamePats_of _ pm [(tCons, ((some ⟨b28, 0, none⟩, 2) : PY))] qm (some ⟨b30, 0, none⟩) cm 1 w5 (Nat.lt_succ_self _) (by omega) (by simp) (hpma.at hw5 (.tail _ (.tail _ (.head _))) (fun k hk => hH5 k (by omega))) (arr_cells (R := tyR) (blk_at (hw5.item (.head _))) (hw5.lt _ (.head _) b30 rfl) (fun p hp => by
   rw [List.mem_singleton] at hp
   rw [hp]
   exact hty))
  have ht : @decide (pm.map Prod.fst = List.map Prod.fst [(tCons, ((some ⟨b28, 0, none⟩, 2) : PY))]) (Classical.propDecidable _) = true := @decide_eq_true _ (Classical.propDecidable _) hpm
  rw [ht] at hc
  exact hc.mono (fun e w6 h => ⟨h.1, hw5.ext h.2⟩)
 apply oop; rfl; apply Pev.pick_and; rfl; exact yes; rfl; exact yes
 apply omv; rfl; rfl
 apply oy; rfl; rfl; rfl; apply Pev.move; rfl; exact yes
 apply oy; rfl; rfl; rfl; apply Pev.bin; rfl; exact yes; rfl; exact yes; intro hcond; apply Bin.eql
 apply oop; rfl; apply Pev.pick_and; rfl; exact yes; rfl; exact yes
 apply omv; rfl; rfl
 apply oy; rfl; rfl; rfl; apply Pev.move; rfl; exact yes
 rw [show (true && true && decide ((0 : Int) = 0)) = true from rfl, show decide ((0 : Int) = 0) = true from rfl, show (true && true) = true from rfl]
 ((apply OL.ungate); (exact Guard.au); rfl)
 apply OL.buildSlice; rfl; rfl; rfl; exact Elems.au; rfl; rfl; (intro bk hbk; simp only [AllLe, and_true] at hbk)
 revert bk
 intro b39 hb39
 (((first | (with_reducible apply OL.op) | (with_reducible apply QL.op)); (exact Guard.au); rfl; rfl); (refine Pev.call (v := .bool true) rfl (by exact Args.au) (fun _ w5 hw5 => ?_)))
 ·have hH5 : ∀ k, k < w4.heap.size → NotOwned [blk b39 3 [.int .i64 1], blk b30 50 [.int .i64 3, .string nCons, .int .i64 0, .slice (some ⟨b28, 0, none⟩) 2 2], blk b28 50 (cat tyR.c (List.replicate 2 (anyT, ((none, 0) : PY))))] k := fun k hk => NotOwned.blk (by omega) (NotOwned.blk (by omega) (NotOwned.blk (by omega) .nil))
  have hc := SameInts_calls qr (some ⟨b39, 0, none⟩) cr 1 [1] [1] w5 (by simp) (by simp) (hri.at hw5 (.head _) hH5) (fun _ => ⟨⟨b39, 0, none⟩, rfl, hw5.lt _ (.head _) b39 rfl, blk_at (hw5.item (.head _))⟩)
  exact hc.mono (fun e w6 h => ⟨by rw [h.1]; rfl, hw5.ext h.2⟩)
 apply oop; rfl; apply Pev.pick_and; rfl; exact yes; rfl; exact yes
 apply omv; rfl; rfl
 rw [show (true && true) = true from rfl]
 ((apply OL.ungate); (exact Guard.au); rfl)
 refine OL.callE (α := (Option Addr × Nat × List (Da × DY)) × World) (fun y => .slice y.1.1 y.1.2.2.length y.1.2.1) (fun y => y.1.2.2.map Prod.fst = listsD ∧ Arr datR y.2 (low y.2) y.1.2.2 y.1.1 ∧ Ext w4 y.2) (fun y => Cls [] [y.2, w4, w3, w2, w1, w]) rfl rfl (by exact Args.au) (fun w5 hw5 => ?_) ?_
 ·refine (lists_calls w5).mono ?_
  rintro e w6 ⟨q', c', ds, h1, h2, h3, h4⟩
  exact ⟨((q', c', ds), w6), h1, ⟨h2, h3.mono (fun k hk => hk.2), (hw5.ext h4).toExt (.head _) (fun k hk => NotOwned.blk (by omega) (NotOwned.blk (by omega) (NotOwned.blk (by omega) .nil)))⟩, ((hw5.ext h4).thin (.blk (by simp only [AllLe, and_true]; omega) (.blk (by simp only [AllLe, and_true]; omega) (.blk (by simp only [AllLe, and_true]; omega) Thin.same)))).note⟩
 rintro ⟨⟨qf, cf, df⟩, w5⟩ ⟨hdf, hdfa, hx5⟩
 simp only at hdf hdfa hx5 ⊢
 have hdfl : df.length = 1 := by
  have := congrArg List.length hdf
  rw [List.length_map] at this
  exact this
 have hw5s := hx5.size
 apply oy; rfl; rfl; rfl; apply Pev.build; rfl; exact CellsL.agg; rfl; exact Fill.au; rfl
 ((apply OL.ungate); (exact Guard.au); rfl)
 apply OL.buildSlice; rfl; rfl; rfl; exact Elems.au; rfl; rfl; (intro bk hbk; simp only [AllLe, and_true] at hbk)
 revert bk
 intro b45 hb45
 ((apply OL.ungate); (exact Guard.au); rfl)
 apply OL.buildSlice; rfl; rfl; rfl; exact Elems.au; rfl; rfl; (intro bk hbk; simp only [AllLe, and_true] at hbk)
 revert bk
 intro b46 hb46
 (((first | (with_reducible apply OL.op) | (with_reducible apply QL.op)); (exact Guard.au); rfl; rfl); (refine Pev.call (v := .int .i64 6) rfl (by exact Args.au) (fun _ w6 hw6 => ?_)))
 ·have hH6 : ∀ k, k < w5.heap.size → NotOwned [blk b46 25 [.slice (some ⟨b45, 0, none⟩) 1 1], blk b45 50 [.int .i64 3, .string nNope, .int .i64 0, .slice none 0 0]] k := fun k hk => NotOwned.blk (by omega) (NotOwned.blk (by omega) .nil)
  have hc := Check_calls qf cf df (some ⟨b46, 0, none⟩) 1 [([tNope], ((some ⟨b45, 0, none⟩, 1) : PY))] w6 (by omega) (hdfa.at hw6 (.head _) hH6) (by simp) (arr_cells (R := patsR) (blk_at (hw6.item (.head _))) (hw6.lt _ (.head _) b46 rfl) (fun p hp => by
   rw [List.mem_singleton] at hp
   rw [hp]
   exact row_ok (t := tNope) (blk_at (hw6.item (i := blk b45 50 [.int .i64 3, .string nNope, .int .i64 0, .slice none 0 0]) (.tail _ (.head _)))) (hw6.lt _ (.tail _ (.head _)) b45 rfl) (flat_ok w6 _ (by simp [I64]) (by simp [I64]))))
  rw [hdf, show List.map Prod.fst [([tNope], ((some ⟨b45, 0, none⟩, 1) : PY))] = [[tNope]] from rfl, fix3] at hc
  exact hc.mono (fun e w7 h => ⟨h.1, hw6.ext h.2⟩)
 apply oy; rfl; rfl; rfl; apply Pev.bin; rfl; exact yes; rfl; exact yes; intro hcond; apply Bin.eql
 apply oop; rfl; apply Pev.pick_and; rfl; exact yes; rfl; exact yes
 apply oas; rfl; rfl
 apply OL.nx
 apply W.ret
 ((with_reducible apply At.fin1); rfl; rfl; intro w' hw')
 exact ⟨rfl, hw'.toExt (s := w) (by simp) (fun k hk => NotOwned.blk (by omega) (NotOwned.blk (by omega) .nil))⟩
end Go.Proofs.Ytleggdmhihcafaa.pt

/- The law PatternsMissing. Conditions: none. -/
namespace Go.Pt
open Go.Eng
theorem check_256 {D : List Da} {R : List (List Ty)} (h : checkE D R = 0) : ∀ d ∈ D, d.cons.length ≤ 256 := by
 intro d hd
 unfold checkE at h
 by_cases h1 : smallE D R = false
 ·rw [if_pos h1] at h
  cases h
 have h1 : smallE D R = true := by simpa using h1
 unfold smallE at h1
 simp only [Bool.and_eq_true, Bool.not_eq_true', List.any_eq_false] at h1
 have := h1.2.2 d hd
 simp at this
 exact this
theorem Mat.good {D : List Da} {R : List (List Ty)} {cols : Nat} (h : Mat D R cols) (hw : wtR R ≤ 800) {r : List Ty} (hr : r ∈ R) {p : Ty} (hp : p ∈ r) : GoodP D p := by
 have h1 := wtR_mem hr
 have h2 := wtA_mem hp
 exact ⟨h.wf r hr p hp, by omega⟩
end Go.Pt
namespace Go.Proofs.Ytleggdmhihcafaa.pt
open Go.RowKit Go.Eng Go.Pt
set_option maxRecDepth 100000
end Go.Proofs.Ytleggdmhihcafaa.pt

/- The law PatternsRedundant. Conditions: none. -/
namespace Go.Proofs.Ytleggdmhihcafaa.pt
open Go.RowKit Go.Eng Go.Pt
set_option maxRecDepth 100000
theorem PatternsRedundant_calls (qd : Option Addr) (cd : Nat) (ds : List (Da × DY)) (q : Option Addr) (cap : Nat) (rs : List (List Ty × PY)) (w : World) (hdl : ds.length ≤ 9223372036854775807) (hd : Arr datR w (low w) ds qd) (hlen : rs.length ≤ 9223372036854775807) (hcap : rs.length ≤ cap) (h : Arr patsR w (low w) rs q) :
  Calls Try.prog 4 [.slice qd ds.length cd, .slice q rs.length cap].toArray w fun e w' => e = .returned (.bool true) ∧ Ext w w' := by
 refine enter Try.func4 rfl Try.ntmps4 rfl (Cls.start w) ?_
 obtain ⟨D, hD⟩ : ∃ D, ds.map Prod.fst = D := ⟨_, rfl⟩
 obtain ⟨R, hR⟩ : ∃ R, rs.map Prod.fst = R := ⟨_, rfl⟩
 have hRl : R.length = rs.length := by rw [← hR, List.length_map]
 (simp only [argEnv, Nat.zero_add, Nat.reduceAdd])
 apply W.sr
 apply oas; rfl; rfl
 apply OL.nx
 apply W.seq
 apply W.sr
 (((first | (with_reducible apply OL.op) | (with_reducible apply QL.op)); (exact Guard.au); rfl; rfl); (refine Pev.call (v := .bool true) rfl (by exact Args.au) (fun _ w2 hw2 => (patternsWork_calls w2).mono fun e w3 h => ⟨h.1, hw2.ext h.2⟩)))
 apply oop; rfl; apply Pev.not; rfl; exact yes
 apply OL.nx
 refine W.cond rfl (fun hb => by simp at hb) (fun _ => ?_)
 apply W.sk
 apply W.sr
 apply omv; rfl; rfl
 apply omv; rfl; rfl
 obtain ⟨ms, hms⟩ : ∃ ms, redR D R = ms := ⟨_, rfl⟩
 refine OL.callE (α := (Option Addr × Nat) × World) (fun y => .tuple #[.slice y.1.1 ms.1.length y.1.2, .int .i64 ms.2]) (fun y => IntsO y.2 (low y.2) ms.1 y.1.1 ∧ Ext w y.2) (fun y => Cls [] [y.2, w]) rfl rfl (by exact Args.au) (fun w2 hw2 => ?_) ?_
 ·have hc := Redundant_calls qd cd ds q cap rs w2 hdl (hd.at hw2 (.head _) (fun k hk => .nil)) hlen hcap (h.at hw2 (.head _) (fun k hk => .nil))
  rw [hD, hR, hms] at hc
  refine hc.mono ?_
  rintro e w3 ⟨q', c', h1, h2, h3⟩
  exact ⟨((q', c'), w3), h1, ⟨h2.mono (fun k hk => hk.2), (hw2.ext h3).toExt (.head _) (fun k hk => .nil)⟩, (hw2.ext h3).note⟩
 rintro ⟨⟨qm, cm⟩, w1⟩ ⟨hma, hx1⟩
 simp only at hma hx1 ⊢
 have hw1s := hx1.size
 apply omv; rfl; rfl
 apply oex; rfl; rfl; rfl
 apply oex; rfl; rfl; rfl
 apply oas; rfl; rfl
 apply oas; rfl; rfl
 apply OL.nx
 apply W.seq
 apply W.sr
 apply omv; rfl; rfl
 apply omv; rfl; rfl
 (((first | (with_reducible apply OL.op) | (with_reducible apply QL.op)); (exact Guard.au); rfl; rfl); (refine Pev.call (v := .int .i64 (checkE D R)) rfl (by exact Args.au) (fun _ w2 hw2 => ?_)))
 ·have hc := Check_calls qd cd ds q cap rs w2 hdl (hd.at hw2 (.tail _ (.head _)) (fun k hk => .nil)) hlen (h.at hw2 (.tail _ (.head _)) (fun k hk => .nil))
  rw [hD, hR] at hc
  exact hc.mono fun e w3 h => ⟨h.1, hw2.ext h.2⟩
 apply oas; rfl; rfl
 apply OL.nsr
 apply omv; rfl; rfl
 apply obn; rfl; rfl; rfl; apply Bin.neq
 apply omv; rfl; rfl
 apply ono; rfl; rfl; rfl; apply Pev.move; rfl; exact yes
 apply ono; rfl; rfl; rfl; apply Pev.len_slice; rfl; exact fun h => h; rfl
 apply ono; rfl; rfl; rfl; apply Pev.bin; rfl; exact fun h => h; rfl; exact yes; intro hcond; apply Bin.eql
 apply oop; rfl; apply Pev.pick_or; rfl; exact yes; rfl; exact fun h => h
 apply OL.nx
 by_cases h0 : checkE D R ≠ 0 ∨ rs.length = 0
 ·have hm : ms = ([], checkE D R) := by
   rw [← hms]
   unfold redR
   by_cases h1 : checkE D R ≠ 0
   ·rw [if_pos h1]
   ·have h2 : R.length = 0 := by
     rcases h0 with h | h
     ·exact absurd h h1
     ·omega
    rw [if_neg h1, h2, Decidable.not_not.1 h1]
    rfl
  refine W.cond rfl (fun _ => ?_) (fun hb => ?_)
  ·rw [hm]
   apply W.sr
   apply omv; rfl; rfl
   apply omv; rfl; rfl
   apply obn; rfl; rfl; rfl; apply Bin.eql
   apply omv; rfl; rfl
   apply oy; rfl; rfl; rfl; apply Pev.move; rfl; exact yes
   apply oy; rfl; rfl; rfl; apply Pev.len_slice; rfl; exact fun h => h; rfl
   apply oy; rfl; rfl; rfl; apply Pev.bin; rfl; exact fun h => h; rfl; exact yes; intro hcond; apply Bin.eql
   apply oop; rfl; apply Pev.pick_and; rfl; exact yes; rfl; exact fun h => h
   apply oas; rfl; rfl
   apply OL.nx
   refine W.rt ?_
   ((with_reducible apply At.fin1); rfl; rfl; intro w' hw')
   exact ⟨by simp, hw'.toExt (s := w) (by simp) (fun k hk => .nil)⟩
  ·exfalso
   rcases h0 with h | h
   ·simp [h] at hb
   ·simp [h] at hb
 have hc0 : checkE D R = 0 := Decidable.not_not.1 (fun e => h0 (.inl e))
 have hn0 : ¬ rs.length = 0 := fun e => h0 (.inr e)
 refine W.cond rfl (fun hb => ?_) (fun _ => ?_)
 ·exfalso
  rw [hc0] at hb
  have h3 : decide ((rs.length : Int) = 0) = false := decide_eq_false (by omega)
  rw [h3] at hb
  cases hb
 obtain ⟨a, u, hqa, hab, hu, hcell, hok⟩ := h.get (i := 0) (by omega)
 have hab : a.block < w.heap.size := hab
 have hcell : w.cell? (a.add (0 * 1)) = some (.slice u.2.1 u.1.length u.2.2) := hcell 0 _ rfl
 obtain ⟨hU, hR64, hwt, cols, hcr, hc16, hM⟩ := checkE_ok hc0
 have huc : u.1.length = cols := hM.len u.1 (by rw [← hR]; exact List.mem_map_of_mem (List.mem_of_getElem? hu))
 have h256 : ∀ x ∈ ds, x.1.cons.length ≤ 256 := fun x hx => check_256 hc0 x.1 (by rw [← hD]; exact List.mem_map_of_mem hx)
 have hgood : ∀ r ∈ rs, r.1.length = cols ∧ ∀ p ∈ r.1, GoodP D p := fun r hr => by
  have hrR : r.1 ∈ R := by rw [← hR]; exact List.mem_map_of_mem hr
  exact ⟨hM.len r.1 hrR, fun p hp => hM.good hwt hrR hp⟩
 have hm : ms = (redL D R R.length, 0) := by rw [← hms]; unfold redR; rw [if_neg (by simp [hc0])]
 obtain ⟨Z, hZ⟩ : ∃ Z, coverE D R 3000 [anys cols] (List.replicate rs.length false) false = Z := ⟨_, rfl⟩
 rw [hqa]
 apply W.sk
 apply W.sr
 apply omv; rfl; rfl
 apply omv; rfl; rfl
 apply omv; rfl; rfl
 apply oop; rfl; apply Pev.idx; rfl; exact yes; rfl; exact yes; rfl; rfl; intro hcond; (simp only [Bool.and_eq_true, Bool.or_eq_true, Bool.not_eq_true', decide_eq_true_eq, decide_eq_false_iff_not] at *; omega)
 apply oop; rfl; apply Pev.load_kept; rfl; exact yes; exact .tail _ (.head _); rfl; intro hcond; assumption; intro hcond; assumption; intro hcond; exact NotOwned.au
 apply oop; rfl; apply Pev.len_slice; rfl; exact yes; rfl
 rw [huc]
 refine OL.callE (α := (Option Addr × Nat) × World) (fun y => .tuple #[.slice y.1.1 (covU Z).length y.1.2, .bool (covN Z), .bool Z.isSome]) (fun y => BoolsO y.2 (low y.2) (covU Z) y.1.1 ∧ Ext w1 y.2) (fun y => Cls [] [y.2, w1, w]) rfl rfl (by exact Args.au) (fun w2 hw2 => ?_) ?_
 ·have hc := Cover_calls qd cd ds q cap rs cols 3000 w2 hdl h256 (by omega) hc16 (Nat.le_refl _) (hd.at hw2 (.tail _ (.head _)) (fun k hk => .nil)) (h.at hw2 (.tail _ (.head _)) (fun k hk => .nil)) (by rw [hD]; exact hgood)
  rw [hD, hR, hZ, hqa] at hc
  refine hc.mono ?_
  rintro e w3 ⟨q', c', h1, h2, h3⟩
  exact ⟨((q', c'), w3), h1, ⟨h2.mono (fun k hk => hk.2), (hw2.ext h3).toExt (.head _) (fun k hk => .nil)⟩, (hw2.ext h3).note⟩
 rintro ⟨⟨qz, cz⟩, w2⟩ ⟨hzb, hx2⟩
 simp only at hzb hx2 ⊢
 have hw2s := hx2.size
 apply omv; rfl; rfl
 apply oex; rfl; rfl; rfl
 apply oex; rfl; rfl; rfl
 apply oex; rfl; rfl; rfl
 apply oas; rfl; rfl
 apply oas; rfl; rfl
 apply oas; rfl; rfl
 apply OL.nx
 apply W.seq
 apply W.sr
 apply omv; rfl; rfl
 apply oop; rfl; apply Pev.not; rfl; exact yes
 apply OL.nx
 cases Z with
 | none =>
  refine W.cond rfl (fun _ => ?_) (fun hb => by cases hb)
  rw [hm]
  apply W.sr
  apply omv; rfl; rfl
  apply obn; rfl; rfl; rfl; apply Bin.eql
  apply oas; rfl; rfl
  apply OL.nx
  refine W.rt ?_
  ((with_reducible apply At.fin1); rfl; rfl; intro w' hw')
  exact ⟨rfl, hw'.toExt (s := w) (by simp) (fun k hk => .nil)⟩
 | some r =>
  refine W.cond rfl (fun hb => by cases hb) (fun _ => ?_)
  have hcu : covU (some r) = r.1 := rfl
  have hrl : r.1.length = rs.length := by rw [(cover_keep _ _ _ _ r hZ).1, List.length_replicate]
  have hused : ∀ i, i < rs.length → r.1[i]? = some (!redB D R i) := fun i hi => by
   obtain ⟨row, hrow⟩ : ∃ row, R[i]? = some row := ⟨_, List.getElem?_eq_getElem (by omega)⟩
   have h1 := cover_useful hU hM (by rw [hRl]; exact hZ) (f := wtR (R.take i) + wtA row + row.length + 1) hrow (by omega)
   rw [h1]
   unfold redB
   rw [hrow, Bool.not_not]
  rw [hcu] at hzb ⊢
  rw [hm] at hma ⊢
  apply W.sk
  apply W.sr
  apply oas; rfl; rfl
  apply OL.nx
  apply W.seq
  apply W.sr
  apply omv; rfl; rfl
  apply oop; rfl; apply Pev.len_slice; rfl; exact yes; rfl
  apply omv; rfl; rfl
  apply OL.nx
  apply W.block
  refine W.loop (G := Nat × (Nat → Prop) × Option Addr × Nat) (fun g => g.1 ≤ rs.length) (fun g => rs.length - g.1)
   (fun g => [(5, true, .slice qm (redL D R R.length).length cm), (6, true, .int .i64 0), (8, true, .slice qz r.1.length cz), (11, true, .slice g.2.2.1 (redL D R g.1).length g.2.2.2), (55, true, .int .i64 (rs.length : Int)), (56, true, .int .i64 (g.1 : Int))])
   (fun g => Cls [row w2.heap.size g.2.1 g.2.2.1 (redL D R g.1).length g.2.2.2 3 1 (intV (redL D R g.1))] [w2, w1, w]) (0, fun _ => False, none, 0) (Nat.zero_le _) (by exact Sub.au) (fun w' hw' => hw'.row_nil w2.heap.size 3 1) ?_
  rintro ⟨i, O, q1, c1⟩ hi
  simp only at hi ⊢
  have hrll := redL_len D R i
  apply W.sr
  apply obn; rfl; rfl; rfl; apply Bin.lss
  apply OL.nx
  apply W.seq
  (refine W.cnd (fun hlt => ?_) (fun hlt => ?_)) <;> (try (exfalso; first | omega | exact hlt trivial | contradiction))
  ·obtain ⟨az, b, hqz, habz, hb, hcellz⟩ := hzb.get (show i < r.1.length by omega)
   have habz : az.block < w2.heap.size := habz
   have hbb : b = !redB D R i := by
    rw [hused i (by omega)] at hb
    exact (Option.some.inj hb).symm
   have hst := redL_succ D R i
   rw [hqz]
   apply W.sk
   apply W.sb
   apply W.sr
   apply omv; rfl; rfl
   apply oas; rfl; rfl
   apply OL.nsr
   apply omv; rfl; rfl
   apply omv; rfl; rfl
   apply oop; rfl; apply Pev.idx; rfl; exact yes; rfl; exact yes; rfl; rfl; intro hcond; omega
   apply oop; rfl; apply Pev.load_kept; rfl; exact yes; exact .head _; rfl; intro hcond; assumption; intro hcond; (rw [add_block]; assumption); intro hcond; exact NotOwned.au
   apply oop; rfl; apply Pev.not; rfl; exact yes
   apply OL.nx
   rw [hbb, Bool.not_not]
   by_cases hrb : redB D R i = true
   ·rw [if_pos hrb] at hst
    rw [hrb]
    refine W.cond rfl (fun _ => ?_) (fun hb => by cases hb)
    apply W.reg
    apply omv; rfl; rfl
    apply omv; rfl; rfl
    apply OL.buildSlice; rfl; rfl; rfl; exact Elems.au; rfl; rfl; (intro bk hbk; simp only [AllLe, and_true] at hbk)
    apply OL.append; rfl; rfl; rfl; rfl; exact Hole.au; exact .head _; exact Take.au; rfl; rfl; exact ⟨_, .head _, Nat.le_refl _⟩; omega; intro O1 g1 cap1
    apply oas; rfl; rfl
    apply OL.nil
    with_reducible apply At.in_normal
    with_reducible apply At.next
    apply W.reg
    apply obn; rfl; rfl; rfl; apply Bin.add_in; omega
    apply omv; rfl; rfl
    apply OL.nil
    have e1 : (redL D R i).length + 1 = (redL D R (i + 1)).length := by rw [hst]; simp
    have e2 : intV (redL D R i) ++ [Value.int .i64 (i : Int)] = intV (redL D R (i + 1)) := by rw [hst, intV_append]; rfl
    rw [e1, e2]
    exact At.again (i + 1, O1, some ⟨g1, 0, none⟩, cap1) (by simp only; omega) (by simp only; omega) (by exact Sub.au) (fun w' hw' => hw'.thin (by exact Thin.au))
   ·have hrb : redB D R i = false := by simpa using hrb
    rw [if_neg (by rw [hrb]; decide), List.append_nil] at hst
    rw [hrb]
    refine W.cond rfl (fun hb => by cases hb) (fun _ => ?_)
    apply W.skip
    with_reducible apply At.in_normal
    with_reducible apply At.next
    apply W.reg
    apply obn; rfl; rfl; rfl; apply Bin.add_in; omega
    apply omv; rfl; rfl
    apply OL.nil
    rw [← hst]
    exact At.again (i + 1, O, q1, c1) (by simp only; omega) (by simp only; omega) (by exact Sub.au) (fun w' hw' => hw')
  ·obtain rfl : i = rs.length := by omega
   rw [hRl]
   refine W.xt ?_
   with_reducible apply At.next
   apply W.sr
   apply omv; rfl; rfl
   apply obn; rfl; rfl; rfl; apply Bin.eql
   apply omv; rfl; rfl
   apply oy; rfl; rfl; rfl; apply Pev.move; rfl; exact yes
   apply oy; rfl; rfl; rfl; apply Pev.move; rfl; exact yes
   (((first | (with_reducible apply OL.op) | (with_reducible apply QL.op)); (exact Guard.au); rfl; rfl); (refine Pev.call (v := .bool true) rfl (by exact Args.au) (fun _ w3 hw3 => ?_)))
   ·have hH3 : ∀ k, k < w1.heap.size → NotOwned [row w2.heap.size O q1 (redL D R rs.length).length c1 3 1 (intV (redL D R rs.length))] k := fun k hk => NotOwned.row (by omega) .nil
    have hma' : IntsO w1 (low w1) (redL D R rs.length) qm := by rw [← hRl]; exact hma
    have hc := SameInts_calls qm q1 cm c1 (redL D R rs.length) (redL D R rs.length) w3 (by omega) (by omega) (hma'.at hw3 (.tail _ (.head _)) hH3) (fun hl => by
     obtain ⟨a9, g1, g2, g3⟩ := SlAt.of_row (hw3.item (.head _)) (by rw [intV_length]; exact hl)
     exact ⟨a9, g1, g2, g3⟩)
    exact hc.mono fun e w4 h => ⟨by rw [h.1]; simp, hw3.ext h.2⟩
   apply oop; rfl; apply Pev.pick_and; rfl; exact yes; rfl; exact yes
   apply oas; rfl; rfl
   apply OL.nx
   apply W.ret
   ((with_reducible apply At.fin1); rfl; rfl; intro w' hw')
   exact ⟨rfl, hw'.toExt (s := w) (by simp) (fun k hk => NotOwned.row (by omega) .nil)⟩
end Go.Proofs.Ytleggdmhihcafaa.pt

/- Readings with the reach: what a slice's and a struct's parts are, and how much they weigh at most. General. No condition. -/
namespace Go.Eng
open Go.RowKit Go.ChangeShapes Go.WideShapes Go.ChangeAt
section
variable {H : Type} {enc : TypeId × Value → H} {P : Program} {w : World} {spare : Nat → Bool} {held : Bool}
def Lt (P : Program) (t : TypeId) (d : DataW H) : Prop := ∀ n ∈ d.weights P t, n ≤ reachBytes
theorem weightsAll_mem {e : TypeId} : ∀ {ds : List (DataW H)} {d : DataW H}, d ∈ ds → ∀ n ∈ d.weights P e, n ∈ DataW.weightsAll P e ds
 | x :: ds, d, hd, n, hn => by
  simp only [DataW.weightsAll, List.mem_append]
  rcases List.mem_cons.1 hd with rfl | hd
  ·exact .inl hn
  ·exact .inr (weightsAll_mem hd n hn)
theorem Lt.arg {ts : List TypeId} {ds : List (DataW H)} (h : (DataW.weightsEach P ts ds).all (· ≤ reachBytes) = true) {j : Nat} {t : TypeId} {d : DataW H} (ht : ts[j]? = some t) (hd : ds[j]? = some d) : Lt P t d := fun n hn => by
 have := List.all_eq_true.1 h _ (DataW.weights_mem_each ht hd n hn)
 simpa using this
theorem rd_struct {t : TypeId} {fs : Array Field} {fuel : Nat} {cs : List Value} {x : DataW H × List MemPlace} (ht : P.underlying t = some (.struct fs)) (h : DataW.trod enc P w 0 spare held fuel t cs = some x) (hw : Lt P t x.1) :
  cs.length = P.cellsOf t ∧ ∃ n, n < fuel ∧ ∀ (i : Nat) (f : Field), fs[i]? = some f → ∃ y, DataW.trod enc P w 0 spare held n f.type ((cs.drop f.offset).take (P.cellsOf f.type)) = some y ∧ Lt P f.type y.1 := by
 obtain ⟨xs, n, hfu, rfl, hlen, hxl, hf⟩ := DataW.trod_struct ht h
 refine ⟨hlen, n, by omega, fun i f hi => ?_⟩
 have hlt : i < xs.length := by rw [hxl]; exact (Array.getElem?_eq_some_iff.1 hi).1
 refine ⟨xs[i], by rw [hf i f hi, List.getElem?_eq_getElem hlt], fun k hk => hw k ?_⟩
 simp only [DataW.weights, ht]
 exact DataW.weights_mem_each (j := i) (t := f.type) (d := xs[i].1) (by simpa using ⟨f, by simpa using hi, rfl⟩) (by simp [hlt]) k hk
theorem rd_slice0 {t e : TypeId} {sz fuel : Nat} {cs : List Value} {x : DataW H × List MemPlace} (ht : P.underlying t = some (.slice e)) (hs : P.cellsOf e = sz) (h : DataW.trod enc P w 0 spare held fuel t cs = some x) (hw : Lt P t x.1) :
  ∃ (q : Option Addr) (len cap : Nat), cs = [.slice q len cap] ∧ len ≤ cap ∧ cap ≤ maxLen ∧ len * P.bytesOf e ≤ reachBytes ∧ (q = none → len = 0) ∧
   ∃ n, n < fuel ∧ ∀ a, q = some a → ∀ i, i < len → ∃ cs' y, CellsAt w (a.add (i * sz)) cs' ∧ cs'.length = sz ∧ DataW.trod enc P w 0 spare held n e cs' = some y ∧ Lt P e y.1 := by
 rcases DataW.trod_slice ht h with ⟨rfl, _⟩ | ⟨a, len, cap, elems, rest, n, hf, rfl, rfl, _, hl, hm, hlen, hel, _, _⟩
 ·refine ⟨none, 0, 0, rfl, Nat.le_refl _, by simp [maxLen], by simp, fun _ => rfl, 0, ?_, fun a ha => by cases ha⟩
  cases fuel with
  | zero => simp [DataW.trod] at h
  | succ n => omega
 ·have hwt : len * P.bytesOf e ≤ reachBytes := by
   have h1 := hw ((elems.map (·.1)).length * P.bytesOf e + (rest.map (·.1)).length * P.bytesOf e) (by simp [DataW.weights, ht, Nat.add_mul])
   rw [List.length_map, hlen] at h1
   omega
  refine ⟨some a, len, cap, rfl, hl, hm, hwt, (fun hn => by cases hn), n, by omega, fun a' ha i hi => ?_⟩
  obtain rfl := Option.some.inj ha
  have h1 := hel i hi
  rw [List.getElem?_eq_getElem (by omega)] at h1
  rw [hs] at h1
  obtain ⟨cs', hc, ht'⟩ := Option.bind_eq_some_iff.1 h1
  obtain ⟨h2, h3⟩ := cellsAt_of hc
  refine ⟨cs', _, h2, h3, ht', fun k hk => hw k ?_⟩
  simp only [DataW.weights, ht]
  exact List.mem_cons_of_mem _ (List.mem_append_left _ (weightsAll_mem (d := elems[i].1) (List.mem_map.2 ⟨_, List.getElem_mem (by omega), rfl⟩) k hk))
variable {α : Type} {f : α → List Value} {sz : Nat} {R : α → Prop}
theorem rd_slice {t e : TypeId} {fuel : Nat} {cs : List Value} {x : DataW H × List MemPlace} (ht : P.underlying t = some (.slice e)) (hs : P.cellsOf e = sz) (hsz : 0 < sz) (hf : ∀ x, (f x).length = sz)
  (he : ∀ (n : Nat) (cs' : List Value) (y : DataW H × List MemPlace), n < fuel → DataW.trod enc P w 0 spare held n e cs' = some y → Lt P e y.1 → ∃ u : α, cs' = f u ∧ R u)
  (h : DataW.trod enc P w 0 spare held fuel t cs = some x) (hw : Lt P t x.1) :
  ∃ (q : Option Addr) (l : List α) (cap : Nat), cs = [.slice q l.length cap] ∧ l.length ≤ cap ∧ cap ≤ maxLen ∧ l.length * P.bytesOf e ≤ reachBytes ∧ SlAt w w.heap.size q (cat f l) ∧ ∀ u ∈ l, R u := by
 obtain ⟨q, len, cap, rfl, hle, hcap, hwt, hq0, m, hm, hel⟩ := rd_slice0 ht hs h hw
 cases q with
 | none =>
  obtain rfl := hq0 rfl
  exact ⟨none, [], cap, rfl, hle, hcap, by simp, SlAt.nil, fun u hu => by cases hu⟩
 | some a =>
  obtain ⟨l, hl, hr⟩ := list_of (fun i (u : α) => CellsAt w (a.add (i * sz)) (f u) ∧ R u) len (fun i hi => by
   obtain ⟨cs', y, hc, hl1, ht', hy⟩ := hel a rfl i hi
   obtain ⟨u, rfl, hR⟩ := he m cs' y hm ht' hy
   exact ⟨u, hc, hR⟩)
  subst hl
  refine ⟨some a, l, cap, rfl, hle, hcap, hwt, fun hv => ⟨a, rfl, ?_, fun j v hj => ?_⟩, fun u hu => ?_⟩
  ·rw [cat_length hf] at hv
   have hl0 : 0 < l.length := Nat.pos_of_mul_pos_right hv
   have h0 := (hr 0 _ (List.getElem?_eq_getElem hl0)).1
   rw [Nat.zero_mul, add_zero_] at h0
   have hz : 0 < (f l[0]).length := by rw [hf]; exact hsz
   have := h0 0 _ (List.getElem?_eq_getElem hz)
   rw [add_zero_] at this
   exact cell_lt this
  ·have hjl := (List.getElem?_eq_some_iff.1 hj).1
   rw [cat_length hf] at hjl
   have hi : j / sz < l.length := Nat.div_lt_of_lt_mul (by rwa [Nat.mul_comm] at hjl)
   have h0 := (hr (j / sz) _ (List.getElem?_eq_getElem hi)).1
   have hm' : j % sz < (f l[j / sz]).length := by rw [hf]; exact Nat.mod_lt _ hsz
   have h1 := cat_get hf (List.getElem?_eq_getElem hi) (j % sz) _ (List.getElem?_eq_getElem hm')
   have ej : j / sz * sz + j % sz = j := by rw [Nat.mul_comm]; exact Nat.div_add_mod j sz
   rw [ej, hj] at h1
   have h2 := h0 (j % sz) _ (List.getElem?_eq_getElem hm')
   rw [add_add, ej] at h2
   rw [h2, h1]
  ·obtain ⟨i, hi, rfl⟩ := List.getElem_of_mem hu
   exact (hr i _ (List.getElem?_eq_getElem hi)).2
end
end Go.Eng

/- Readings of data types and of rows of patterns. Conditions: none. -/
namespace Go.Eng
open Go.RowKit Go.ChangeShapes Go.WideShapes Go.ChangeAt
section
variable {H : Type} {enc : TypeId × Value → H} {P : Program} {w : World} {spare : Nat → Bool} {held : Bool} {α μ : Type} {R : Rel α μ}
theorem rd_arrL {t e : TypeId} {fuel : Nat} {cs : List Value} {x : DataW H × List MemPlace} (ht : P.underlying t = some (.slice e)) (hs : P.cellsOf e = R.sz)
  (he : ∀ (n : Nat) (cs' : List Value) (y : DataW H × List MemPlace), n < fuel → DataW.trod enc P w 0 spare held n e cs' = some y → Lt P e y.1 → ∃ u : α × μ, cs' = R.c u ∧ R.ok w (low w) u.1 u.2)
  (h : DataW.trod enc P w 0 spare held fuel t cs = some x) (hw : Lt P t x.1) :
  ∃ (q : Option Addr) (l : List (α × μ)) (cap : Nat), cs = [.slice q l.length cap] ∧ l.length ≤ cap ∧ cap ≤ maxLen ∧ l.length * P.bytesOf e ≤ reachBytes ∧ Arr R w (low w) l q := by
 obtain ⟨q, l, cap, e1, h1, h2, h3, h4, h5⟩ := rd_slice (α := α × μ) (f := R.c) (R := fun u => R.ok w (low w) u.1 u.2) ht hs R.pos R.clen he h hw
 exact ⟨q, l, cap, e1, h1, h2, h3, fun hl => h4 (by rw [cat_length (f := R.c) R.clen]; exact Nat.mul_pos hl R.pos), h5⟩
end
end Go.Eng
namespace Go.Proofs.Ytleggdmhihcafaa.pt
open Go.RowKit Go.Eng Go.Pt Go.ChangeShapes Go.WideShapes Go.ChangeAt
set_option maxRecDepth 100000
section
variable {H : Type} {enc : TypeId × Value → H} {w : World} {spare : Nat → Bool} {held : Bool}
theorem list2 {α : Type} {l : List α} (h : l.length = 2) : ∃ a0 a1, l = [a0, a1] := by
 match l, h with
 | [a0, a1], _ => exact ⟨a0, a1, rfl⟩
theorem list3 {α : Type} {l : List α} (h : l.length = 3) : ∃ a0 a1 a2, l = [a0, a1, a2] := by
 match l, h with
 | [a0, a1, a2], _ => exact ⟨a0, a1, a2, rfl⟩
theorem reach47 : reachBytes ≤ 140737488355328 := by decide
theorem con_rd {fuel : Nat} {cs : List Value} {x : DataW H × List MemPlace} (h : DataW.trod enc Try.prog w 0 spare held fuel 86 cs = some x) (hw : Lt Try.prog 86 x.1) : ∃ u : Co × PY, cs = conR.c u ∧ conR.ok w (low w) u.1 u.2 := by
 obtain ⟨hlen, n, hn, hf⟩ := rd_struct Try.underlying86 h hw
 rw [show Try.prog.cellsOf 86 = 2 by kernel_rfl] at hlen
 obtain ⟨a0, a1, rfl⟩ := list2 hlen
 obtain ⟨y0, g0, w0⟩ := hf 0 _ rfl
 obtain ⟨y1, g1, w1⟩ := hf 1 _ rfl
 change DataW.trod enc Try.prog w 0 spare held n 9 ((List.drop 0 [a0, a1]).take (Try.prog.cellsOf 9)) = some y0 at g0
 change DataW.trod enc Try.prog w 0 spare held n 84 ((List.drop 1 [a0, a1]).take (Try.prog.cellsOf 84)) = some y1 at g1
 rw [show Try.prog.cellsOf 9 = 1 by kernel_rfl] at g0
 rw [show Try.prog.cellsOf 84 = 1 by kernel_rfl] at g1
 obtain ⟨nm, e0, _, _⟩ := DataW.trod_string Try.underlying9 g0
 obtain ⟨q1, l1, c1, e1, b1, m1, n1, _, _⟩ := rd_slice0 (sz := 4) Try.underlying84 (by kernel_rfl) g1 w1
 rw [show Try.prog.bytesOf 158 = 56 by kernel_rfl] at n1
 have h47 := reach47
 simp at e0 e1
 refine ⟨(⟨nm, l1⟩, (q1, c1)), ?_, ?_⟩
 ·rw [e0, e1]
  rfl
 ·show l1 * 56 ≤ 140737488355328
  omega
theorem dat_rd {fuel : Nat} {cs : List Value} {x : DataW H × List MemPlace} (h : DataW.trod enc Try.prog w 0 spare held fuel 89 cs = some x) (hw : Lt Try.prog 89 x.1) : ∃ u : Da × DY, cs = datR.c u ∧ datR.ok w (low w) u.1 u.2 := by
 obtain ⟨hlen, n, hn, hf⟩ := rd_struct Try.underlying89 h hw
 rw [show Try.prog.cellsOf 89 = 3 by kernel_rfl] at hlen
 obtain ⟨a0, a1, a2, rfl⟩ := list3 hlen
 obtain ⟨y0, g0, w0⟩ := hf 0 _ rfl
 obtain ⟨y1, g1, w1⟩ := hf 1 _ rfl
 obtain ⟨y2, g2, w2⟩ := hf 2 _ rfl
 change DataW.trod enc Try.prog w 0 spare held n 9 ((List.drop 0 [a0, a1, a2]).take (Try.prog.cellsOf 9)) = some y0 at g0
 change DataW.trod enc Try.prog w 0 spare held n 3 ((List.drop 1 [a0, a1, a2]).take (Try.prog.cellsOf 3)) = some y1 at g1
 change DataW.trod enc Try.prog w 0 spare held n 87 ((List.drop 2 [a0, a1, a2]).take (Try.prog.cellsOf 87)) = some y2 at g2
 rw [show Try.prog.cellsOf 9 = 1 by kernel_rfl] at g0
 rw [show Try.prog.cellsOf 3 = 1 by kernel_rfl] at g1
 rw [show Try.prog.cellsOf 87 = 1 by kernel_rfl] at g2
 obtain ⟨nm, e0, _, _⟩ := DataW.trod_string Try.underlying9 g0
 obtain ⟨i1, e1, _⟩ := DataW.trod_int Try.underlying3 g1
 obtain ⟨q2, l2, c2, e2, b2, m2, n2, o2⟩ := rd_arrL (R := conR) Try.underlying87 (by kernel_rfl) (fun n cs' y _ hy hwy => con_rd hy hwy) g2 w2
 unfold maxLen at m2
 simp at e0 e1 e2
 refine ⟨(⟨l2.map Prod.fst⟩, ⟨nm, i1, q2, c2⟩), ?_, ⟨l2, rfl, o2⟩, ?_⟩
 ·rw [e0, e1, e2]
  show _ = [Value.string nm, .int .i64 i1, .slice q2 (l2.map Prod.fst).length c2]
  rw [List.length_map]
 ·show (l2.map Prod.fst).length ≤ 9223372036854775807
  rw [List.length_map]
  omega
theorem pat_rd {fuel : Nat} {cs : List Value} {x : DataW H × List MemPlace} (h : DataW.trod enc Try.prog w 0 spare held fuel 50 cs = some x) : ∃ u : Ty × PY, cs = tyR.c u ∧ tyR.ok w (low w) u.1 u.2 := by
 obtain ⟨t, ht⟩ := ty_of Try.underlying50 Try.underlying3 Try.underlying9 Try.underlying25 ⟨rfl, rfl⟩ ⟨rfl, rfl⟩ ⟨rfl, rfl⟩ ⟨rfl, rfl⟩ (by kernel_rfl) (by kernel_rfl) (by kernel_rfl) (by kernel_rfl) fuel h
 obtain ⟨y, h1, h2⟩ := TyO.of_C ht
 exact ⟨(t, y), h1, h2⟩
theorem pats_rd {fuel : Nat} {cs : List Value} {x : DataW H × List MemPlace} (h : DataW.trod enc Try.prog w 0 spare held fuel 25 cs = some x) : ∃ u : List Ty × PY, cs = patsR.c u ∧ patsR.ok w (low w) u.1 u.2 := by
 obtain ⟨q, l, cap, e, h1, h2, h3⟩ := rd_arr (R := tyR) Try.underlying25 (by kernel_rfl) (fun n cs' y _ hy => pat_rd hy) h
 unfold maxLen at h2
 refine ⟨(l.map Prod.fst, (q, cap)), ?_, ⟨l, rfl, h3⟩, ?_, ?_⟩
 ·rw [e]
  show _ = [Value.slice q (l.map Prod.fst).length cap]
  rw [List.length_map]
 ·rw [List.length_map]
  exact h1
 ·rw [List.length_map]
  omega
theorem rows_rd {fuel : Nat} {cs : List Value} {x : DataW H × List MemPlace} (h : DataW.trod enc Try.prog w 0 spare held fuel 23 cs = some x) : ∃ (q : Option Addr) (l : List (List Ty × PY)) (cap : Nat), cs = [.slice q l.length cap] ∧ l.length ≤ cap ∧ cap ≤ maxLen ∧ Arr patsR w (low w) l q :=
 rd_arr (R := patsR) Try.underlying23 (by kernel_rfl) (fun n cs' y _ hy => pats_rd hy) h
theorem datas_rd {fuel : Nat} {cs : List Value} {x : DataW H × List MemPlace} (h : DataW.trod enc Try.prog w 0 spare held fuel 22 cs = some x) (hw : Lt Try.prog 22 x.1) : ∃ (q : Option Addr) (l : List (Da × DY)) (cap : Nat), cs = [.slice q l.length cap] ∧ l.length ≤ cap ∧ cap ≤ maxLen ∧ Arr datR w (low w) l q := by
 obtain ⟨q, l, cap, e, h1, h2, _, h3⟩ := rd_arrL (R := datR) Try.underlying22 (by kernel_rfl) (fun n cs' y _ hy hwy => dat_rd hy hwy) h hw
 exact ⟨q, l, cap, e, h1, h2, h3⟩
end
end Go.Proofs.Ytleggdmhihcafaa.pt
