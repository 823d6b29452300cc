/- Texts of the proof of PatternsRedundant, part 3: rules of a calculus for walking, plain laws, and walks of the functions that the law reaches. No condition. -/
import Derived.Test.YtleggdmhihcafaaPatternsRedundant2
set_option linter.unusedVariables false
set_option linter.unusedSimpArgs false
set_option linter.unusedSectionVars false
/- The walk of patterns' missing. Conditions: none. -/
namespace Go.Pt
open Go.Eng Go.RowKit
theorem wt_args {p : Ty} (h : free p = false) : p.args.length < wt p := by
 rw [wt_eq, if_neg (by simp [h])]
 omega
theorem wtA_mem : ∀ {l : List Ty} {p : Ty}, p ∈ l → wt p ≤ wtA l
 | q :: l, p, h => by
  rw [wtA]
  rcases List.mem_cons.1 h with rfl | h
  ·omega
  ·have := wtA_mem h
   omega
theorem wtR_mem : ∀ {rows : List (List Ty)} {r : List Ty}, r ∈ rows → wtA r ≤ wtR rows
 | s :: rs, r, h => by
  rw [wtR]
  rcases List.mem_cons.1 h with rfl | h
  ·omega
  ·have := wtR_mem h
   omega
theorem narrow_sz {D : List Da} {rs : List (List Ty × PY)} {cols B : Nat} (hM : Mat D (rs.map Prod.fst) (cols + 1)) (hB : wtR (rs.map Prod.fst) + (cols + 1) ≤ B) (nm : ByteArray) : ∀ r ∈ rs, ∀ p t, r.1 = p :: t → t.length ≤ B ∧ (free p = false → p.name = nm → p.args.length ≤ B) := fun r hr p t he => by
 have hm : r.1 ∈ rs.map Prod.fst := List.mem_map_of_mem hr
 have h1 := hM.len _ hm
 rw [he, List.length_cons] at h1
 refine ⟨by omega, fun hf _ => ?_⟩
 have h2 := wtR_mem hm
 have h3 := wtA_mem (p := p) (l := r.1) (by rw [he]; exact .head _)
 have h4 := wt_args hf
 omega
theorem Mat.ne {D : List Da} {rs : List (List Ty × PY)} {cols : Nat} (hM : Mat D (rs.map Prod.fst) (cols + 1)) : ∀ r ∈ rs, r.1 ≠ [] := fun r hr e => by
 have := hM.len _ (List.mem_map_of_mem hr)
 rw [e] at this
 cases this
end Go.Pt
namespace Go.Proofs.Ytleggdmhihcafaa.pt
open Go.RowKit Go.Eng Go.Pt
set_option maxRecDepth 100000
theorem Clone2_calls (q : Option Addr) (cap : Nat) (l : List (Ty × PY)) (w : World) (hlen : l.length ≤ 100000) (h : SlAt w w.heap.size q (cat tyR.c l)) :
  Calls Try.prog 41 #[.slice q l.length cap] w fun e w' => ∃ (q' : Option Addr) (cap' : Nat), e = .returned (.slice q' l.length cap') ∧ FrA w w' l q' ∧ Ext w w' ∧ l.length ≤ cap' := by
 refine (Clone_calls q cap l w hlen h).mono ?_
 rintro e w' ⟨q', c', h1, h2, h3⟩
 refine ⟨q', c', h1, fun hl => ?_, h2, ?_⟩
 rotate_left
 ·by_cases hl : 0 < l.length
  ·obtain ⟨g, rest, g1, g2, g3, g4⟩ := h3 hl
   rw [List.length_append, cat_length pat_len] at g4
   omega
  ·omega
 obtain ⟨g, rest, g1, g2, g3, g4⟩ := h3 hl
 refine ⟨⟨g, 0, none⟩, g1, ⟨g2, blk_lt g3⟩, fun j v hj => ?_⟩
 rw [add_mid, blk_cell g3, Nat.zero_add, List.getElem?_append_left (List.getElem?_eq_some_iff.1 hj).1]
 exact hj
theorem missing_calls (T : TT) : ∀ (f : Nat) (q : Option Addr) (cap cols : Nat) (rs : List (List Ty × PY)) (w : World), T.ok w → rs.length ≤ 100000 → Arr patsR w (low w) rs q → Mat T.D (rs.map Prod.fst) cols → wtR (rs.map Prod.fst) + cols < f → wtR (rs.map Prod.fst) + cols ≤ 100000 →
  Calls Try.prog 21 [T.v, .slice q rs.length cap, .int .i64 (cols : Int)].toArray w fun e w' => ∃ q' c' ps, e = .returned (.tuple #[.slice q' ps.length c', .bool (missingE T.D f (rs.map Prod.fst) cols).2]) ∧ ps.map Prod.fst = (missingE T.D f (rs.map Prod.fst) cols).1 ∧ ps.length ≤ c' ∧ ps.length ≤ cols ∧ Arr tyR w' (fresh w w') ps q' ∧ Ext w w'
 | 0, q, cap, cols, rs, w, hT, hlen, h, hM, hf, hB => by omega
 | f + 1, q, cap, 0, rs, w, hT, hlen, h, hM, hf, hB => by
  refine enter Try.func21 rfl Try.ntmps21 rfl (Cls.start w) ?_
  unfold TT.v
  (simp only [argEnv, Nat.zero_add, Nat.reduceAdd])
  apply W.sr
  apply OL.box; rfl; rfl; exact CellsL.agg; (intro bk hbk; simp only [AllLe, and_true] at hbk)
  apply oas; rfl; rfl
  apply oas; rfl; rfl
  apply OL.nx
  apply W.seq
  apply W.sr
  apply omv; rfl; rfl
  apply obn; rfl; rfl; rfl; apply Bin.eql
  apply OL.nx
  refine W.cond rfl (fun _ => ?_) (fun hb => by simp at hb)
  apply W.sr
  apply omv; rfl; rfl
  apply oop; rfl; apply Pev.len_slice; rfl; exact yes; rfl
  apply obn; rfl; rfl; rfl; apply Bin.eql
  apply oas; rfl; rfl
  apply oas; rfl; rfl
  apply OL.nx
  refine W.rt ?_
  ((with_reducible apply At.fin2); rfl; rfl; rfl; intro w' hw')
  exact ⟨none, 0, [], by simp [missingE], rfl, Nat.le_refl _, Nat.le_refl _, Arr.nil, by (exact hw'.fr)⟩
 | f + 1, q, cap, cols + 1, rs, w, hT, hlen, h, hM, hf, hB => by
  have hne := hM.ne
  have ih := missing_calls T f
  refine enter Try.func21 rfl Try.ntmps21 rfl (Cls.start w) ?_
  unfold TT.v
  (simp only [argEnv, Nat.zero_add, Nat.reduceAdd])
  apply W.sr
  apply OL.box; rfl; rfl; exact CellsL.agg; (intro bk hbk; simp only [AllLe, and_true] at hbk)
  apply oas; rfl; rfl
  apply oas; rfl; rfl
  apply OL.nx
  apply W.seq
  apply W.sr
  apply omv; rfl; rfl
  apply obn; rfl; rfl; rfl; apply Bin.eql
  apply OL.nx
  revert bk
  intro b0 hb0
  refine W.cond rfl (fun hb => by simp at hb; omega) (fun _ => ?_)
  apply W.sk
  apply W.sr
  apply omv; rfl; rfl
  obtain ⟨rows, hrows⟩ : ∃ rows, rs.map Prod.fst = rows := ⟨_, rfl⟩
  rw [hrows] at hM hf hB ⊢
  refine OL.callE (α := (Option Addr × Nat × List (Ty × PY)) × Nat × Nat) (fun z => .slice z.1.1 z.1.2.2.length z.1.2.1) (fun z => z.1.2.2.map Prod.fst = first rows ∧ z.1.2.2.length ≤ 100000 ∧ (∀ p ∈ z.1.2.2, TyO w (low w) p.1 p.2) ∧ w.heap.size ≤ z.2.1) (fun z => Cls [pile z.2.1 (fun k => k < z.2.2) [⟨z.1.1, z.1.2.1, cat tyR.c z.1.2.2⟩], blk b0 55 [.slice T.q T.ds.length T.c, .map (some T.b)]] [w]) rfl rfl (by exact Args.au) (fun w2 hw2 => ?_) ?_
  ·refine (first_calls q cap rs w w2 (hw2.toExt (.head _) (fun k hk => by exact NotOwned.au)) (by omega) h hne).mono ?_
   rintro e w3 ⟨q', c', ps, h1, h2, h3, h4, h5, h6⟩
   exact ⟨((q', c', ps), w2.heap.size, w3.heap.size), h1, ⟨by rw [h2, hrows], by simp only; omega, h5, (hw2.kp w (.head _)).size⟩, Cls.fra hw2 h6 h4⟩
  rintro ⟨⟨qf, cf, pf⟩, lo1, hi1⟩ ⟨hpf, hpfl, hpfo, hlo1⟩
  simp only at hpf hpfl hpfo hlo1 ⊢
  have hpm : ∀ p ∈ pf, p.1 ∈ first rows := fun p hp => by rw [← hpf]; exact List.mem_map_of_mem hp
  have hno1 : ∀ k, k < w.heap.size → NotOwned [pile lo1 (fun k => k < hi1) [⟨qf, cf, cat tyR.c pf⟩], blk b0 55 [.slice T.q T.ds.length T.c, .map (some T.b)]] k := fun k hk => NotOwned.pile (by omega) (NotOwned.blk (by omega) .nil)
  obtain ⟨ab, hab⟩ : ∃ ab, absent T.D (first rows) = ab := ⟨_, rfl⟩
  apply oas; rfl; rfl
  apply OL.nx
  apply W.seq
  apply W.sr
  apply oop; rfl; apply Pev.load_blkA; rfl; exact yes; exact .tail _ (.head _); rfl; exact Take.au
  apply omv; rfl; rfl
  refine OL.callE (α := PY × Nat × Nat) (fun z => .tuple #[.agg (tyc (ab.getD anyT) z.1).toArray, .bool ab.isSome]) (fun z => w.heap.size ≤ z.2.1) (fun z => Cls [pool tyR z.2.1 (fun k => k < z.2.2) [(ab.getD anyT, z.1)], pile lo1 (fun k => k < hi1) [⟨qf, cf, cat tyR.c pf⟩], blk b0 55 [.slice T.q T.ds.length T.c, .map (some T.b)]] [w]) rfl rfl (by exact Args.au) (fun w2 hw2 => ?_) ?_
  ·refine (absent_calls T qf cf pf w2 (hT.at hw2 (.head _) hno1) (by omega) (pile_arr (hw2.item (.head _)) (fun p hp => Rel.at (R := tyR) (hpfo p hp) hw2 (.head _) hno1)) (fun p hp => ⟨(hM.wf_first (hpm p hp)).1, (first_col (hpm p hp)).2⟩) (fun p hp q hq => (hM.kinds (hpm p hp) (hpm q hq)).1)).mono ?_
   rintro e w3 ⟨y, h1, h2, h3⟩
   rw [hpf, hab] at h1 h2
   exact ⟨(y, w2.heap.size, w3.heap.size), h1, (hw2.kp w (.head _)).size, Cls.pat hw2 h3 h2⟩
  rintro ⟨ya, lo2, hi2⟩ hlo2
  simp only [tyc] at hlo2 ⊢
  cases ab with
  | some p =>
   simp only [Option.getD_some, Option.isSome_some]
   have hmi : missingE T.D (f + 1) rows (cols + 1) = (p :: (missingE T.D f (rest rows) cols).1, (missingE T.D f (rest rows) cols).2) := by
    simp only [missingE]
    rw [hab]
   rw [hmi]
   apply omv; rfl; rfl
   apply oex; rfl; rfl; rfl
   apply oex; rfl; rfl; rfl
   apply OL.alloc; rfl; rfl; exact CellsL.agg; (intro bk hbk; simp only [AllLe, and_true] at hbk)
   apply OL.storeB; rfl; rfl; exact CellsL.agg; rfl; rfl; rfl; exact Swap.au; exact Put.au
   apply oas; rfl; rfl
   apply OL.nsr
   apply omv; rfl; rfl
   apply OL.nx
   revert bk
   intro b9 hb9
   refine W.cond rfl (fun _ => ?_) (fun hb => by cases hb)
   have hH : ∀ k, k < w.heap.size → NotOwned [blk b9 50 [.int .i64 p.kind, .string p.name, .int .i64 p.var, .slice ya.1 p.args.length ya.2], pool tyR lo2 (fun k => k < hi2) [(p, ya)], blk b0 55 [.slice T.q T.ds.length T.c, .map (some T.b)]] k := fun k hk => NotOwned.blk (by omega) (NotOwned.pool (by omega) (NotOwned.blk (by omega) .nil))
   refine W.cls (C' := Cls [blk b9 50 [.int .i64 p.kind, .string p.name, .int .i64 p.var, .slice ya.1 p.args.length ya.2], pool tyR lo2 (fun k => k < hi2) [(p, ya)], blk b0 55 [.slice T.q T.ds.length T.c, .map (some T.b)]] [w]) (fun w' hw' => hw'.thin (.keep (.keep (.any (fun k hk => ⟨Nat.le_trans hlo1 hk.1, trivial⟩) Thin.same)))) ?_
   apply W.seq
   (refine W.regm (by (repeat (first | exact ZSplit.nil | apply ZSplit.pure rfl | apply ZSplit.tail))) (by (repeat (first | exact Tag.nil | apply Tag.pu rfl | apply Tag.ef))) (by kernel_rfl) (by decide +kernel) (fun w hw => hw.drew) ?_)
   apply ZL.ld rfl; exact Guard.none; rfl; rfl; apply Pev.load_blkA; rfl; exact yes; exact .tail _ (.tail _ (.head _)); rfl; exact Take.au
   apply ZL.op rfl; exact Guard.none; rfl; rfl; apply Pev.move; rfl; exact yes
   apply ZL.op rfl; exact Guard.none; rfl; rfl; apply Pev.move; rfl; exact yes
   apply ZL.op rfl; exact Guard.none; rfl; rfl; apply Pev.bin; rfl; exact yes; rfl; exact yes; intro hcond; apply Bin.sub_in; omega
   apply ZL.nilM
   apply TM.one rfl
   refine OL.callE (α := (Option Addr × Nat × List (List Ty × PY)) × Nat × Nat) (fun z => .slice z.1.1 z.1.2.2.length z.1.2.1) (fun z => z.1.2.2.map Prod.fst = rest rows ∧ z.1.2.2.length ≤ 100000 ∧ (∀ r ∈ z.1.2.2, patsR.ok w (low w) r.1 r.2) ∧ w.heap.size ≤ z.2.1) (fun z => Cls [pile z.2.1 (fun k => k < z.2.2) [⟨z.1.1, z.1.2.1, cat patsR.c z.1.2.2⟩], blk b9 50 [.int .i64 p.kind, .string p.name, .int .i64 p.var, .slice ya.1 p.args.length ya.2], pool tyR lo2 (fun k => k < hi2) [(p, ya)], blk b0 55 [.slice T.q T.ds.length T.c, .map (some T.b)]] [w]) rfl rfl (by exact Args.au) (fun w2 hw2 => ?_) ?_
   ·refine (rest_calls q cap rs w w2 (hw2.toExt (.head _) hH) (by omega) h hne).mono ?_
    rintro e w3 ⟨q', c', ls, h1, h2, h3, h4, h5, h6, h7⟩
    exact ⟨((q', c', ls), w2.heap.size, w3.heap.size), h1, ⟨by rw [h2, hrows], by simp only; omega, h6, (hw2.kp w (.head _)).size⟩, Cls.frs hw2 h7 h5⟩
   rintro ⟨⟨ql, cl, ls⟩, lo3, hi3⟩ ⟨hls, hlsl, hlso, hlo3⟩
   simp only at hls hlsl hlso hlo3 ⊢
   apply OL.nil
   refine At.tkm (fun w9 hw9 => hw9.thin (.any (fun k hk => ⟨Nat.le_trans hlo3 hk.1, trivial⟩) Thin.same)) ?_
   apply TM.one rfl
   rw [show ((cols + 1 : Nat) : Int) - 1 = (cols : Int) by omega]
   have hH3 : ∀ k, k < w.heap.size → NotOwned [pile lo3 (fun k => k < hi3) [⟨ql, cl, cat patsR.c ls⟩], blk b9 50 [.int .i64 p.kind, .string p.name, .int .i64 p.var, .slice ya.1 p.args.length ya.2], pool tyR lo2 (fun k => k < hi2) [(p, ya)], blk b0 55 [.slice T.q T.ds.length T.c, .map (some T.b)]] k := fun k hk => NotOwned.pile (by omega) (hH k hk)
   have hMr : Mat T.D (rest rows) cols := hM.tail rest_tail
   have hwr := wtR_rest rows
   refine OL.callE (α := (Option Addr × Nat × List (Ty × PY)) × Nat × Nat) (fun z => .tuple #[.slice z.1.1 z.1.2.2.length z.1.2.1, .bool (missingE T.D f (rest rows) cols).2]) (fun z => z.1.2.2.map Prod.fst = (missingE T.D f (rest rows) cols).1 ∧ z.1.2.2.length ≤ z.1.2.1 ∧ z.1.2.2.length ≤ cols ∧ w.heap.size ≤ z.2.1) (fun z => Cls [arrI z.2.1 (fun k => k < z.2.2) z.1.2.2 z.1.1, pile lo3 (fun k => k < hi3) [⟨ql, cl, cat patsR.c ls⟩], blk b9 50 [.int .i64 p.kind, .string p.name, .int .i64 p.var, .slice ya.1 p.args.length ya.2], pool tyR lo2 (fun k => k < hi2) [(p, ya)], blk b0 55 [.slice T.q T.ds.length T.c, .map (some T.b)]] [w]) rfl rfl (by exact Args.au) (fun w2 hw2 => ?_) ?_
   ·refine (ih ql cl cols ls w2 (hT.at hw2 (.head _) hH3) hlsl (Arr.of_sl (pile_at (hw2.item (.head _)) (.head _)) (fun r hr => Rel.at (R := patsR) (hlso r hr) hw2 (.head _) hH3)) (by rw [hls]; exact hMr) (by rw [hls]; omega) (by rw [hls]; omega)).mono ?_
    rintro e w3 ⟨q', c', ps, h1, h2, h3, h4, h5, h6⟩
    rw [hls] at h1 h2
    exact ⟨((q', c', ps), w2.heap.size, w3.heap.size), h1, ⟨h2, h3, h4, (hw2.kp w (.head _)).size⟩, Cls.arrI hw2 h6 h5⟩
   rintro ⟨⟨q4, c4, p4⟩, lo4, hi4⟩ ⟨hp4, hp4c, hp4l, hlo4⟩
   simp only at hp4 hp4c hp4l hlo4 ⊢
   apply OL.nil
   with_reducible apply At.tnm; decide +kernel
   apply TM.pure rfl; exact Guard.none; rfl; rfl; apply Pev.move; rfl; exact yes
   apply TM.pure rfl; exact Guard.none; rfl; rfl; apply Pev.extract; rfl; exact yes; rfl
   apply TM.pure rfl; exact Guard.none; rfl; rfl; apply Pev.extract; rfl; exact yes; rfl
   apply TM.pure rfl; exact Guard.none; rfl; rfl; apply Pev.assign; rfl; exact yes
   apply TM.pure rfl; exact Guard.none; rfl; rfl; apply Pev.assign; rfl; exact yes
   apply TM.nil
   with_reducible apply At.np
   with_reducible apply At.next
   apply W.sr
   apply oop; rfl; apply Pev.load_blkA; rfl; exact yes; exact .tail _ (.tail _ (.head _)); rfl; exact Take.au
   apply OL.buildSlice; rfl; rfl; rfl; exact Elems.au; rfl; rfl; (intro bk hbk; simp only [AllLe, and_true] at hbk)
   apply omv; rfl; rfl
   ((apply OL.appendB (news := cat tyR.c p4) (base := w.heap.size)); rfl; rfl; rfl; rfl; (exact Hole.au); (exact hbk); rfl; (exact fun w2 hw2 => (arrI_low hw2 (.tail _ (.head _))).slAt); (exact cat_length pat_len _); (exact cat_oneL pat_one _); (exact ⟨w, .head _, Nat.le_refl _⟩); (omega); (intro O1 q1 c1))
   apply omv; rfl; rfl
   apply oas; rfl; rfl
   apply oas; rfl; rfl
   apply OL.nx
   refine W.rt ?_
   ((with_reducible apply At.fin2); rfl; rfl; rfl; intro w' hw')
   refine ⟨q1, c1, (p, ya) :: p4, by rw [List.length_cons, Nat.add_comm], by rw [List.map_cons, hp4], ?_, by rw [List.length_cons]; omega, ?_, ?_⟩
   ·have := row_cap (hw'.item (.head _))
    rw [List.length_cons]
    omega
   ·have hF : FrA w w' ((p, ya) :: p4) q1 := FrA.of_row (m := 1 + p4.length) (cap := c1) (O := O1) (e := 50) hw' (.head _)
    refine ⟨hF, fun z hz => ?_⟩
    rcases List.mem_cons.1 hz with rfl | hz
    ·exact TyO.mono (fun k hk => ⟨Nat.le_trans hlo2 hk.1, hw'.lt (pool tyR lo2 (fun k => k < hi2) [(p, ya)]) (.tail _ (.tail _ (.tail _ (.tail _ (.head _))))) k hk⟩) (hw'.item (i := pool tyR lo2 (fun k => k < hi2) [(p, ya)]) (.tail _ (.tail _ (.tail _ (.tail _ (.head _))))) _ (.head _))
    ·exact TyO.mono (fun k hk => ⟨Nat.le_trans hlo4 hk.1, hw'.lt (arrI lo4 (fun k => k < hi4) p4 q4) (.tail _ (.head _)) k hk⟩) ((hw'.item (i := arrI lo4 (fun k => k < hi4) p4 q4) (.tail _ (.head _))).el z hz)
   ·exact hw'.toExt (s := w) (.head _) (fun k hk => NotOwned.row (by omega) (NotOwned.arrI (by omega) (NotOwned.pile (by omega) (NotOwned.blk (by omega) (NotOwned.pool (by omega) (NotOwned.blk (by omega) .nil))))))
  | none =>
   simp only [Option.getD_none, Option.isSome_none]
   obtain ⟨d, x0, hx0, hxd, hall, hcf, _, hcon⟩ := absent_none hM hab
   have hmi : missingE T.D (f + 1) rows (cols + 1) = missLoop (missingE T.D f) rows cols (consOf T.D d) := by
    simp only [missingE]
    rw [hab, hcf]
   rw [hmi]
   have h3 : ∀ q ∈ first rows, q.kind = 3 := fun q hq => (hall q hq).1
   obtain ⟨z0, pf', hpf0⟩ : ∃ z r, pf = z :: r := by
    cases hx : pf with
    | nil => rw [hx] at hpf; rw [← hpf] at hx0; cases hx0
    | cons z r => exact ⟨z, r, rfl⟩
   have hz0m : z0.1 ∈ first rows := hpm z0 (by rw [hpf0]; exact .head _)
   obtain ⟨hz3, hzd⟩ := hall _ hz0m
   obtain ⟨c0, e1⟩ : ∃ c0, conAt T.D z0.1.name = some (d, c0) := by
    obtain ⟨d', c', g1, _⟩ := (hM.wf_first hz0m).1.cons hz3
    rw [dOf_of g1] at hzd
    cases hzd
    exact ⟨c', g1⟩
   obtain ⟨ad, ud, cs, k1, k2, k3, k4, k5, k6, k7⟩ := dat_at hT e1
   obtain ⟨ix, hmg⟩ := hT.tab.con e1
   have hcu := hT.uniq
   apply omv; rfl; rfl
   apply oex; rfl; rfl; rfl
   apply oex; rfl; rfl; rfl
   apply OL.alloc; rfl; rfl; exact CellsL.agg; (intro bk hbk; simp only [AllLe, and_true] at hbk)
   apply OL.storeB; rfl; rfl; exact CellsL.agg; rfl; rfl; rfl; exact Swap.au; exact Put.au
   apply oas; rfl; rfl
   apply OL.nsr
   apply omv; rfl; rfl
   apply OL.nx
   revert bk
   intro b9 hb9
   refine W.cond rfl (fun hb => by cases hb) (fun _ => ?_)
   refine W.cls (C' := Cls [pile lo1 (fun k => k < hi1) [⟨qf, cf, cat tyR.c pf⟩], blk b0 55 [.slice T.q T.ds.length T.c, .map (some T.b)]] [w]) (fun w' hw' => hw'.thin (.blk (by simp only [AllLe, and_true]; omega) (.any (fun k hk => ⟨Nat.le_trans hlo2 hk.1, trivial⟩) Thin.same))) ?_
   refine W.fact (φ := ∃ a, qf = some a) (fun w' hw' => pile_some (hw'.item (.head _)) (.head _) (by rw [hpf0]; exact Nat.succ_pos _)) (fun hq => ?_)
   obtain ⟨af, rfl⟩ := hq
   have hpl0 : 0 < pf.length := by rw [hpf0]; exact Nat.succ_pos _
   rw [k1] at hno1 ⊢
   apply W.sk
   apply W.seq
   apply W.seq
   apply W.regd0; decide +kernel; kernel_rfl; decide +kernel; exact fun w hw => hw.drew
   apply qfa; rfl; rfl; rfl
   apply qld; rfl; rfl; exact .tail _ (.head _); rfl; rfl
   apply qfa; rfl; rfl; rfl
   apply qld; rfl; rfl; exact .tail _ (.head _); rfl; rfl
   apply qmv; rfl; rfl
   apply qop; rfl; apply Pev.idx; rfl; exact yes; rfl; exact yes; rfl; rfl; intro hcond; omega
   apply qop; rfl; apply Pev.fldA; rfl; exact yes; rfl
   (((first | (with_reducible apply OL.op) | (with_reducible apply QL.op)); (exact Guard.au); rfl; rfl); (refine Pev.load_pile (s := ⟨some af, cf, cat tyR.c pf⟩) (k := 1) (v := .string z0.1.name) rfl (by (first | exact fun _ => rfl | exact fun h => h | (intro h; simp_all; done))) (.head _) rfl (.head _) rfl (by rw [hpf0]; rfl)))
   skip
   (((first | (with_reducible apply OL.op) | (with_reducible apply QL.op)); (exact Guard.au); rfl; rfl); (refine Pev.lookup_v (m := T.m) (v := .agg #[.int .i64 (d : Int), .int .i64 ix, .int .i64 (c0.many : Int)]) (zv := .agg #[.int .i64 0, .int .i64 0, .int .i64 0]) rfl (by (first | exact fun _ => rfl | exact fun h => h | (intro h; simp_all; done))) rfl (by (first | exact fun _ => rfl | exact fun h => h | (intro h; simp_all; done))) rfl rfl (fun w2 hw2 => (hT.at hw2 (by exact mau) hno1).map_) (by rw [hmg]; rfl)))
   apply qop; rfl; apply Pev.field; rfl; exact yes; rfl; rfl
   apply qop; rfl; apply Pev.idx; rfl; exact yes; rfl; exact yes; rfl; rfl; intro hcond; omega
   apply qop; rfl; apply Pev.fldA; rfl; exact yes; rfl
   apply qop; rfl; apply Pev.load_kept; rfl; exact yes; exact .head _; rfl; intro hcond; apply CellsAt.at_ (by assumption) rfl; intro hcond; (simp only [add_block]; assumption); intro hcond; exact NotOwned.au
   apply qop; rfl; apply Pev.len_slice; rfl; exact yes; rfl
   apply qmv; rfl; rfl
   apply QL.nil
   with_reducible apply At.next
   apply W.block
   have hH0 : ∀ k, k < w.heap.size → NotOwned [blk b0 55 [.slice (some ad) T.ds.length T.c, .map (some T.b)]] k := fun k hk => NotOwned.blk (by omega) .nil
   refine W.loop (G := Nat) (fun j => j ≤ cs.length ∧ missLoop (missingE T.D f) rows cols ((cs.map Prod.fst).drop j) = missLoop (missingE T.D f) rows cols (consOf T.D d)) (fun j => cs.length - j)
    (fun j => [(1, true, .slice q rs.length cap), (2, true, .int .i64 ((cols + 1 : Nat) : Int)), (3, true, .pointer (some ⟨b0, 0, none⟩)), (59, true, .slice ud.2.q cs.length ud.2.cap), (60, true, .int .i64 (cs.length : Int)), (61, true, .int .i64 (j : Int))])
    (fun j => Cls [blk b0 55 [.slice (some ad) T.ds.length T.c, .map (some T.b)]] [w]) 0 ⟨Nat.zero_le _, by rw [k5]; rfl⟩ (by exact Sub.au) (fun w' hw' => hw'.thin (.any (fun k hk => ⟨Nat.le_trans hlo1 hk.1, trivial⟩) Thin.same)) ?_
   rintro j ⟨hj1, hj2⟩
   apply W.sr
   apply obn; rfl; rfl; rfl; apply Bin.lss
   apply OL.nx
   apply W.seq
   (refine W.cnd (fun hlt => ?_) (fun hlt => ?_)) <;> (try (exfalso; first | omega | exact hlt trivial | contradiction))
   ·obtain ⟨ac, uc, hq3, hab3, hu3, hcell3, hok3⟩ := k6.get (show j < cs.length by omega)
    have hab3 : ac.block < w.heap.size := hab3
    have hcell3 : CellsAt w (ac.add (j * 2)) [.string uc.1.name, .slice uc.2.1 uc.1.many uc.2.2] := hcell3
    have hdr : (cs.map Prod.fst).drop j = uc.1 :: (cs.map Prod.fst).drop (j + 1) := by
     have hl : j < (cs.map Prod.fst).length := by rw [List.length_map]; omega
     rw [List.drop_eq_getElem_cons hl]
     congr 1
     rw [List.getElem_map]
     rw [List.getElem?_eq_getElem (by omega)] at hu3
     rw [Option.some.inj hu3]
    have hcm : uc.1 ∈ consOf T.D d := by
     rw [k5]
     exact List.mem_map_of_mem (List.mem_of_getElem? hu3)
    have hcc := hcu d uc.1 hcm
    have hMn := hM.narrow hcc h3
    have hocc := occurs hcu hM hall hcon hcm
    rw [hdr, missLoop] at hj2
    rw [hq3]
    apply W.sk
    apply W.sb
    apply W.sr
    apply oop; rfl; apply Pev.idx; rfl; exact yes; rfl; exact yes; rfl; rfl; intro hcond; omega
    apply oop; rfl; apply Pev.load_keptA; rfl; exact yes; exact .head _; rfl; intro hcond; assumption; rfl; intro hcond; (rw [add_block]; assumption); intro hcond; exact NotOwned.au
    apply OL.alloc; rfl; rfl; exact CellsL.agg; (intro bk hbk; simp only [AllLe, and_true] at hbk)
    apply OL.storeB; rfl; rfl; exact CellsL.agg; rfl; rfl; rfl; exact Swap.au; exact Put.au
    apply OL.nsr
    apply ofa; rfl; rfl; rfl
    apply old; rfl; rfl; exact .head _; rfl; rfl
    apply oop; rfl; apply Pev.len_slice; rfl; exact yes; rfl
    apply oas; rfl; rfl
    apply OL.nx
    apply W.seq
    revert bk
    intro b14 hb14
    have hH1 : ∀ k, k < w.heap.size → NotOwned [blk b14 86 [.string uc.1.name, .slice uc.2.1 uc.1.many uc.2.2], blk b0 55 [.slice (some ad) T.ds.length T.c, .map (some T.b)]] k := fun k hk => NotOwned.blk (by omega) (NotOwned.blk (by omega) .nil)
    have hnsz : ∀ r ∈ rs, ∀ p t, r.1 = p :: t → t.length ≤ 10000000 ∧ (free p = false → p.name = uc.1.name → p.args.length ≤ 10000000) := fun r hr p t he => by
     obtain ⟨g1, g2⟩ := narrow_sz (rs := rs) (cols := cols) (B := 100000) (by rw [hrows]; exact hM) (by rw [hrows]; omega) uc.1.name r hr p t he
     exact ⟨by omega, fun a b => by have := g2 a b; omega⟩
    (refine W.regm (by (repeat (first | exact ZSplit.nil | apply ZSplit.pure rfl | apply ZSplit.tail))) (by (repeat (first | exact Tag.nil | apply Tag.pu rfl | apply Tag.ef))) (by kernel_rfl) (by decide +kernel) (fun w hw => hw.drew) ?_)
    apply ZL.ld rfl; exact Guard.none; rfl; rfl; apply Pev.load_blkA; rfl; exact yes; exact .tail _ (.head _); rfl; exact Take.au
    apply ZL.op rfl; exact Guard.none; rfl; rfl; apply Pev.move; rfl; exact yes
    apply ZL.op rfl; exact Guard.none; rfl; rfl; apply Pev.fld; rfl; exact yes; rfl
    apply ZL.ld rfl; exact Guard.none; rfl; rfl; apply Pev.load_blk; rfl; exact yes; exact .head _; rfl; rfl
    apply ZL.op rfl; exact Guard.none; rfl; rfl; apply Pev.move; rfl; exact yes
    apply ZL.op rfl; exact Guard.none; rfl; rfl; apply Pev.move; rfl; exact yes
    apply ZL.op rfl; exact Guard.none; rfl; rfl; apply Pev.move; rfl; exact yes
    apply ZL.op rfl; exact Guard.none; rfl; rfl; apply Pev.bin; rfl; exact yes; rfl; exact yes; intro hcond; apply Bin.add_in; omega
    apply ZL.op rfl; exact Guard.none; rfl; rfl; apply Pev.bin; rfl; exact yes; rfl; exact yes; intro hcond; apply Bin.sub_in; omega
    apply ZL.nilM
    apply TM.one rfl
    refine OL.callE (α := GE × (Nat → Prop) × Nat) (fun z => .slice z.1.q z.1.ps.length z.1.c) (fun z => z.1.ps.map (fun r => r.1.map Prod.fst) = narrow rows uc.1.name uc.1.many ∧ z.1.ps.length ≤ 100000 ∧ w.heap.size ≤ z.2.2) (fun z => Cls [row z.2.2 z.1.O z.1.q z.1.ps.length z.1.c 25 1 (cat (patsE (fun p => TyO w (low w) p.1 p.2)).c z.1.ps), pool (patsE (fun p => TyO w (low w) p.1 p.2)) z.2.2 z.2.1 z.1.ps, blk b14 86 [.string uc.1.name, .slice uc.2.1 uc.1.many uc.2.2], blk b0 55 [.slice (some ad) T.ds.length T.c, .map (some T.b)]] [w]) rfl rfl (by exact Args.au) (fun w2 hw2 => ?_) ?_
    ·refine (narrow_calls q cap rs uc.1.name uc.1.many w w2 (hw2.toExt (.head _) hH1) (by omega) h hne (by omega) hnsz).mono ?_
     rintro e w3 ⟨g, O2, h1, h2, h3, h4⟩
     rw [hrows] at h2
     refine ⟨(g, O2, w2.heap.size), h1, ⟨h2, by simp only; omega, (hw2.kp w (.head _)).size⟩, hw2.over (h4.forget (fun s hs => by rw [List.mem_singleton] at hs; rw [hs]; exact .head _)) (fun i hi k hk => ?_)⟩
     rcases List.mem_cons.1 hi with rfl | hi
     ·exact hk.1
     ·rw [List.mem_singleton] at hi
      subst hi
      exact hk.1
    rintro ⟨⟨On, qn, cn, pn⟩, On2, lo3⟩ ⟨hpn, hpnl, hlo3⟩
    simp only at hpn hpnl hlo3 ⊢
    apply OL.nil
    refine At.tkm (fun w9 hw9 => hw9.thin (.any (fun k hk => ⟨Nat.le_trans hlo3 hk.1, trivial⟩) (.any (fun k hk => ⟨Nat.le_trans hlo3 hk.1, trivial⟩) Thin.same))) ?_
    apply TM.one rfl
    rw [show (uc.1.many : Int) + ((cols + 1 : Nat) : Int) - 1 = ((uc.1.many + cols : Nat) : Int) by omega]
    have hH3 : ∀ k, k < w.heap.size → NotOwned [row lo3 On qn pn.length cn 25 1 (cat (patsE (fun p => TyO w (low w) p.1 p.2)).c pn), pool (patsE (fun p => TyO w (low w) p.1 p.2)) lo3 On2 pn, blk b14 86 [.string uc.1.name, .slice uc.2.1 uc.1.many uc.2.2], blk b0 55 [.slice (some ad) T.ds.length T.c, .map (some T.b)]] k := fun k hk => NotOwned.row (by omega) (NotOwned.pool (by omega) (hH1 k hk))
    obtain ⟨ms, hms⟩ : ∃ ms, missingE T.D f (narrow rows uc.1.name uc.1.many) (uc.1.many + cols) = ms := ⟨_, rfl⟩
    refine OL.callE (α := (Option Addr × Nat × List (Ty × PY)) × Nat × Nat) (fun z => .tuple #[.slice z.1.1 z.1.2.2.length z.1.2.1, .bool ms.2]) (fun z => z.1.2.2.map Prod.fst = ms.1 ∧ z.1.2.2.length ≤ z.1.2.1 ∧ z.1.2.2.length ≤ uc.1.many + cols ∧ w.heap.size ≤ z.2.1) (fun z => Cls [arrI z.2.1 (fun k => k < z.2.2) z.1.2.2 z.1.1, blk b14 86 [.string uc.1.name, .slice uc.2.1 uc.1.many uc.2.2], blk b0 55 [.slice (some ad) T.ds.length T.c, .map (some T.b)]] [w]) rfl rfl (by exact Args.au) (fun w2 hw2 => ?_) ?_
    ·have harr := pool_arr hw2 (.head _) (.tail _ (.head _)) (hw2.toExt (.head _) hH3)
     have hmap : (pn.map fun r => (r.1.map Prod.fst, r.2)).map Prod.fst = narrow rows uc.1.name uc.1.many := by rw [List.map_map, ← hpn]; rfl
     have hc := ih qn cn (uc.1.many + cols) (pn.map fun r => (r.1.map Prod.fst, r.2)) w2 (hT.at hw2 (.head _) hH3) (by rw [List.length_map]; exact hpnl) harr (by rw [hmap]; exact hMn) (by rw [hmap]; omega) (by rw [hmap]; omega)
     rw [hmap, List.length_map, hms] at hc
     unfold TT.v at hc
     rw [k1] at hc
     refine hc.mono ?_
     rintro e w3 ⟨q', c', ps, h1, h2, h3, h4, h5, h6⟩
     exact ⟨((q', c', ps), w2.heap.size, w3.heap.size), h1, ⟨h2, h3, h4, (hw2.kp w (.head _)).size⟩, (Cls.arrI hw2 h6 h5).thin (.keep (.any (fun k hk => ⟨Nat.le_trans hlo3 hk.1, trivial⟩) (.any (fun k hk => ⟨Nat.le_trans hlo3 hk.1, trivial⟩) Thin.same)))⟩
    rintro ⟨⟨q4, c4, p4⟩, lo4, hi4⟩ ⟨hp4, hp4c, hp4l, hlo4⟩
    simp only at hp4 hp4c hp4l hlo4 ⊢
    rw [hms] at hj2
    apply OL.nil
    with_reducible apply At.tnm; decide +kernel
    apply TM.pure rfl; exact Guard.none; rfl; rfl; apply Pev.move; rfl; exact yes
    apply TM.pure rfl; exact Guard.none; rfl; rfl; apply Pev.extract; rfl; exact yes; rfl
    apply TM.pure rfl; exact Guard.none; rfl; rfl; apply Pev.extract; rfl; exact yes; rfl
    apply TM.pure rfl; exact Guard.none; rfl; rfl; apply Pev.assign; rfl; exact yes
    apply TM.pure rfl; exact Guard.none; rfl; rfl; apply Pev.assign; rfl; exact yes
    apply TM.nil
    with_reducible apply At.np
    with_reducible apply At.next
    apply W.sr
    apply omv; rfl; rfl
    apply OL.nx
    refine W.cond rfl (fun hb => ?_) (fun hb => ?_)
    ·have hb : ms.2 = true := hb
     rw [if_pos hb] at hj2
     rw [← hj2]
     have hml : p4.length = uc.1.many + cols := by
      have := (missing_sound hcu f _ _ hMn (by rw [hms]; exact hb)).1
      rw [hms, ← hp4, List.length_map] at this
      exact this
     have htl : (p4.take uc.1.many).length = uc.1.many := by rw [List.length_take]; omega
     apply W.seq
     refine W.joinx (G := Nat × PY × Nat × Nat) (fun z => w.heap.size ≤ z.1 ∧ w.heap.size ≤ z.2.2.1 ∧ uc.1.many ≤ z.2.1.2) (fun z => [(15, true, .int .i64 (uc.1.many : Int)), (16, true, .slice q4 p4.length c4), (18, true, .pointer (some ⟨z.1, 0, none⟩))])
      (fun z => Cls [blk z.1 50 [.int .i64 3, .string uc.1.name, .int .i64 0, .slice z.2.1.1 uc.1.many z.2.1.2], pile z.2.2.1 (fun k => k < z.2.2.2) [⟨z.2.1.1, z.2.1.2, cat tyR.c (p4.take uc.1.many)⟩], arrI lo4 (fun k => k < hi4) p4 q4, blk b14 86 [.string uc.1.name, .slice uc.2.1 uc.1.many uc.2.2], blk b0 55 [.slice (some ad) T.ds.length T.c, .map (some T.b)]] [w]) ?_ ?_
     ·refine W.regp (.fk 5 (.pu 6 (.ef 7 (.ef 8 .nil))) 7 (.ef 5 (.pu 6 (.ef 8 .nil)))) (by (repeat (first | exact ZSplit.nil | apply ZSplit.pure rfl | apply ZSplit.tail))) (by kernel_rfl) (by decide +kernel) (fun w hw => hw.drew) (fun hyy => ?_)
      apply ZL.op rfl; exact Guard.none; rfl; rfl; apply Pev.fld; rfl; exact yes; rfl
      apply ZL.ld rfl; exact Guard.none; rfl; rfl; apply Pev.load_blk; rfl; exact yes; exact .tail _ (.head _); rfl; rfl
      apply ZL.op rfl; exact Guard.none; rfl; rfl; apply Pev.move; rfl; exact yes
      apply ZL.op rfl; exact Guard.none; rfl; rfl; apply Pev.move; rfl; exact yes
      apply ZL.op rfl; exact Guard.none; rfl; rfl; apply Pev.slice_hi; rfl; exact yes; rfl; exact yes; rfl; rfl; intro hcond; omega
      apply ZL.nilN
      refine TN.fk hyy rfl rfl ?_ ?_
      ·refine OL.callE (α := PY × Nat × Nat) (fun z => .slice z.1.1 uc.1.many z.1.2) (fun z => w.heap.size ≤ z.2.1 ∧ uc.1.many ≤ z.1.2) (fun z => Cls [pile z.2.1 (fun k => k < z.2.2) [⟨z.1.1, z.1.2, cat tyR.c (p4.take uc.1.many)⟩], arrI lo4 (fun k => k < hi4) p4 q4, blk b14 86 [.string uc.1.name, .slice uc.2.1 uc.1.many uc.2.2], blk b0 55 [.slice (some ad) T.ds.length T.c, .map (some T.b)]] [w]) rfl rfl (by exact Args.au) (fun w2 hw2 => ?_) ?_
       ·have hc := Clone2_calls q4 c4 (p4.take uc.1.many) w2 (by omega) ((arrI_low hw2 (.head _)).take uc.1.many).slAt
        rw [htl] at hc
        refine hc.mono ?_
        rintro e w3 ⟨q', c', h1, h2, h3, h4⟩
        exact ⟨((q', c'), w2.heap.size, w3.heap.size), h1, ⟨(hw2.kp w (.head _)).size, by omega⟩, Cls.fra hw2 h3 h2⟩
       rintro ⟨y5, lo5, hi5⟩ ⟨hlo5, hcap5⟩
       simp only at hlo5 hcap5 ⊢
       apply OL.nil
       refine At.tkn (fun w9 hw9 => hw9.thin (.any (fun k hk => ⟨Nat.le_trans hlo5 hk.1, trivial⟩) Thin.same)) ?_
       apply TN.pu (by assumption) rfl rfl; exact Guard.none; rfl; rfl; apply Pev.build; rfl; exact CellsL.agg; rfl; exact Fill.au; rfl
       apply TN.ef (by assumption) rfl
       apply OL.alloc; rfl; rfl; exact CellsL.agg; (intro bk hbk; simp only [AllLe, and_true] at hbk)
       apply OL.nil
       refine At.tkn (fun w9 hw9 => hw9.thin (.blk (by simp only [AllLe, and_true]; omega) (.any (fun k hk => ⟨Nat.le_trans hlo5 hk.1, trivial⟩) Thin.same))) ?_
       apply TN.ef (by assumption) rfl
       apply OL.storeB; rfl; rfl; exact CellsL.agg; rfl; rfl; rfl; exact Swap.au; exact Put.au
       apply OL.nil
       with_reducible apply At.tnn; decide +kernel
       apply TN.nil
       with_reducible apply At.np
       exact At.joinedx (bk, y5, lo5, hi5) ⟨hbk, hlo5, hcap5⟩ (by exact Sub.au) (fun w' hw' => hw')
      ·apply OL.alloc; rfl; rfl; exact CellsL.agg; (intro bk hbk; simp only [AllLe, and_true] at hbk)
       apply OL.nil
       refine At.tkn (fun w hw => hw.thin ?_) ?_; exact Thin.au
       apply TN.ef (by assumption) rfl
       refine OL.callE (α := PY × Nat × Nat) (fun z => .slice z.1.1 uc.1.many z.1.2) (fun z => w.heap.size ≤ z.2.1 ∧ uc.1.many ≤ z.1.2) (fun z => Cls [pile z.2.1 (fun k => k < z.2.2) [⟨z.1.1, z.1.2, cat tyR.c (p4.take uc.1.many)⟩], blk bk 50 [.int .i64 0, .string ⟨#[]⟩, .int .i64 0, .slice none 0 0], arrI lo4 (fun k => k < hi4) p4 q4, blk b14 86 [.string uc.1.name, .slice uc.2.1 uc.1.many uc.2.2], blk b0 55 [.slice (some ad) T.ds.length T.c, .map (some T.b)]] [w]) rfl rfl (by exact Args.au) (fun w2 hw2 => ?_) ?_
       ·have hc := Clone2_calls q4 c4 (p4.take uc.1.many) w2 (by omega) ((arrI_low hw2 (.tail _ (.head _))).take uc.1.many).slAt
        rw [htl] at hc
        refine hc.mono ?_
        rintro e w3 ⟨q', c', h1, h2, h3, h4⟩
        exact ⟨((q', c'), w2.heap.size, w3.heap.size), h1, ⟨(hw2.kp w (.head _)).size, by omega⟩, Cls.fra hw2 h3 h2⟩
       rintro ⟨y5, lo5, hi5⟩ ⟨hlo5, hcap5⟩
       simp only at hlo5 hcap5 ⊢
       apply OL.nil
       refine At.tkn (fun w9 hw9 => hw9.thin (.any (fun k hk => ⟨Nat.le_trans hlo5 hk.1, trivial⟩) (.blk (by simp only [AllLe, and_true]; omega) Thin.same))) ?_
       apply TN.pu (by assumption) rfl rfl; exact Guard.none; rfl; rfl; apply Pev.build; rfl; exact CellsL.agg; rfl; exact Fill.au; rfl
       apply TN.ef (by assumption) rfl
       apply OL.storeB; rfl; rfl; exact CellsL.agg; rfl; rfl; rfl; exact Swap.au; exact Put.au
       apply OL.nil
       with_reducible apply At.tnn; decide +kernel
       apply TN.nil
       with_reducible apply At.np
       exact At.joinedx (bk, y5, lo5, hi5) ⟨hbk, hlo5, hcap5⟩ (by exact Sub.au) (fun w' hw' => hw'.flip)
     rintro ⟨b18, y5, lo5, hi5⟩ ⟨hb18, hlo5, hcap5⟩
     simp only at hb18 hlo5 hcap5 ⊢
     apply W.seq
     apply W.regz; apply ZSplit.pure rfl; apply ZSplit.tail; apply ZSplit.pure rfl; apply ZSplit.pure rfl; apply ZSplit.pure rfl; apply ZSplit.tail; apply ZSplit.tail; apply ZSplit.tail; exact ZSplit.nil; kernel_rfl; decide +kernel; exact fun w hw => hw.drew
     apply ZL.ld rfl; exact Guard.none; rfl; rfl; apply Pev.load_blkA; rfl; exact yes; exact .head _; rfl; exact Take.au
     apply ZL.op rfl; exact Guard.none; rfl; rfl; apply Pev.move; rfl; exact yes
     apply ZL.op rfl; exact Guard.none; rfl; rfl; apply Pev.move; rfl; exact yes
     apply ZL.op rfl; exact Guard.none; rfl; rfl; apply Pev.slice_lo; rfl; exact yes; rfl; exact yes; rfl; rfl; intro hcond; omega
     apply ZL.nil
     apply TL.one rfl
     apply OL.buildSlice; rfl; rfl; rfl; exact Elems.au; rfl; rfl; (intro bk hbk; simp only [AllLe, and_true] at hbk)
     apply OL.nil
     with_reducible apply At.tn; decide +kernel
     apply TL.one rfl
     ((apply OL.appendB (news := cat tyR.c (p4.drop uc.1.many)) (base := w.heap.size)); rfl; rfl; rfl; rfl; (exact Hole.au); (exact hbk); rfl; (exact fun w2 hw2 => (Arr.drop (arrI_low hw2 (.tail _ (.tail _ (.tail _ (.head _))))) hp4c uc.1.many).slAt); (rw [cat_length pat_len, List.length_drop]); (exact cat_oneL pat_one _); (exact ⟨w, .head _, Nat.le_refl _⟩); (omega); (intro O1 q1 c1))
     apply OL.nil
     with_reducible apply At.tn; decide +kernel
     apply TL.one rfl
     apply oas; rfl; rfl
     apply OL.nil
     with_reducible apply At.tn; decide +kernel
     apply TL.one rfl
     apply oas; rfl; rfl
     apply OL.nil
     with_reducible apply At.tn; decide +kernel
     apply TL.nil
     with_reducible apply At.np
     with_reducible apply At.next
     refine W.rt ?_
     ((with_reducible apply At.fin2); rfl; rfl; rfl; intro w' hw')
     obtain ⟨pn0, hpn0⟩ : ∃ pn0 : Ty × PY, pn0 = (.mk 3 uc.1.name 0 ((p4.take uc.1.many).map Prod.fst), y5) := ⟨_, rfl⟩
     have hcell : [Value.int .i64 3, .string uc.1.name, .int .i64 0, .slice y5.1 uc.1.many y5.2] ++ cat tyR.c (p4.drop uc.1.many) = cat tyR.c (pn0 :: p4.drop uc.1.many) := by
      rw [hpn0]
      show _ = [Value.int .i64 3, .string uc.1.name, .int .i64 0, .slice y5.1 ((p4.take uc.1.many).map Prod.fst).length y5.2] ++ _
      rw [List.length_map, htl]
     rw [hcell] at hw'
     have hrow := hw'.item (.head _)
     have hel4 : ∀ z ∈ p4, TyO w' (fresh w w') z.1 z.2 := fun z hz => TyO.mono (fun k hk => ⟨Nat.le_trans hlo4 hk.1, hw'.lt (arrI lo4 (fun k => k < hi4) p4 q4) (.tail _ (.tail _ (.tail _ (.head _)))) k hk⟩) ((hw'.item (i := arrI lo4 (fun k => k < hi4) p4 q4) (.tail _ (.tail _ (.tail _ (.head _))))).el z hz)
     have hp0 : TyO w' (fresh w w') pn0.1 pn0.2 := by
      rw [hpn0]
      refine TyO.of_parts (k := 3) (v := 0) (nm := uc.1.name) (q := y5.1) (cap := y5.2) (by simp [I64]) (by simp [I64]) (by omega) (by omega) ⟨fun hl => ?_, fun z hz => hel4 z (List.mem_of_mem_take hz)⟩
      obtain ⟨a5, g1, g2, g3⟩ := hw'.item (i := pile lo5 (fun k => k < hi5) [⟨y5.1, y5.2, cat tyR.c (p4.take uc.1.many)⟩]) (.tail _ (.tail _ (.head _))) _ (.head _) (by show 0 < (cat tyR.c _).length; rw [cat_length (f := tyR.c) tyR.clen]; exact Nat.mul_pos hl tyR.pos)
      exact ⟨a5, g1, ⟨Nat.le_trans hlo5 g2.1, hw'.lt (pile lo5 (fun k => k < hi5) [⟨y5.1, y5.2, cat tyR.c (p4.take uc.1.many)⟩]) (.tail _ (.tail _ (.head _))) _ g2⟩, g3⟩
     refine ⟨q1, c1, pn0 :: p4.drop uc.1.many, by rw [List.length_cons, List.length_drop, Nat.add_comm], ?_, ?_, by rw [List.length_cons, List.length_drop]; omega, ⟨FrA.of_row (m := 1 + (p4.length - uc.1.many)) (cap := c1) (O := O1) (e := 50) hw' (.head _), fun z hz => ?_⟩, ?_⟩
     ·rw [List.map_cons, List.map_drop, hp4, hpn0]
      simp only [List.map_take, hp4]
     ·have := row_cap hrow
      rw [List.length_cons, List.length_drop]
      omega
     ·rcases List.mem_cons.1 hz with rfl | hz
      ·exact hp0
      ·exact hel4 z (List.mem_of_mem_drop hz)
     ·exact hw'.toExt (s := w) (.head _) (fun k hk => NotOwned.row (by omega) (NotOwned.blk (by omega) (NotOwned.pile (by omega) (NotOwned.arrI (by omega) (hH1 k hk)))))
    ·have hb : ms.2 = false := hb
     rw [if_neg (by rw [hb]; decide)] at hj2
     apply W.skip
     with_reducible apply At.in_normal
     with_reducible apply At.next
     apply W.reg
     apply obn; rfl; rfl; rfl; apply Bin.add_in; omega
     apply omv; rfl; rfl
     apply OL.nil
     exact At.again (j + 1) ⟨by omega, hj2⟩ (by omega) (by exact Sub.au) (fun w' hw' => hw'.thin (.any (fun k hk => ⟨Nat.le_trans hlo4 hk.1, trivial⟩) (.blk (by simp only [AllLe, and_true]; omega) Thin.same)))
   ·rw [List.drop_eq_nil_of_le (by rw [List.length_map]; omega), missLoop] at hj2
    rw [← hj2]
    refine W.xt ?_
    with_reducible apply At.next
    apply W.sr
    apply oas; rfl; rfl
    apply oas; rfl; rfl
    apply OL.nx
    apply W.ret
    ((with_reducible apply At.fin2); rfl; rfl; rfl; intro w' hw')
    exact ⟨none, 0, [], rfl, rfl, Nat.le_refl _, Nat.zero_le _, Arr.nil, by (exact hw'.fr)⟩
end Go.Proofs.Ytleggdmhihcafaa.pt

/- A store of an element into a grown row; an item that joins a pool. General. No condition. -/
namespace Go.Eng
open Go.RowKit
theorem putL_takeC : ∀ (vs l : List Value) (o m : Nat), (putL l o vs).take m = putL (l.take m) o vs
 | [], _, _, _ => rfl
 | v :: vs, l, o, m => by rw [putL, putL_takeC vs, List.take_set, putL]
section
variable {P : Program} {n : Nm} {l : Env} {H : List Item} {S : List World} {ops : Array Oper} {rest : List Oper} {Q : Exit → Act → World → Prop} {t ty : TypeId} {x y : Operand} {pos : String} {af : Array Edge} {w : World} {B : Nat} {i : Item}
theorem OL.storeRA {g0 o p base m cap size k : Nat} {O : Nat → Prop} {e : TypeId} {xs vs : List Value} {v : Value} {F : Item → List Item} (hx : evl l x = some (true, .pointer (some ⟨g0, o, none⟩))) (hy : evl l y = some (true, v)) (hv : CellsL v vs)
  (hs : sizeN P t = some k) (hk : vs.length = k) (h1 : oneL vs = true) (hH : Hole p H (row base O (some ⟨g0, 0, none⟩) m cap e size xs) F) (hl : o + vs.length ≤ xs.length)
  (kk : OL P n ops Q rest l (Cls (F (row base O (some ⟨g0, 0, none⟩) m cap e size (putL xs o vs))) S)) : OL P n ops Q (⟨none, .store t x y, ty, pos, af, none⟩ :: rest) l (Cls H S) := by
 obtain ⟨hp, hF⟩ := hH.eq
 rw [hF] at kk
 refine OL.store_ (C' := Cls (H.set p (row base O (some ⟨g0, 0, none⟩) m cap e size (putL xs o vs))) S) rfl rfl (fun a w hs' hc => ?_) kk
 have hi := hc.item (List.mem_of_getElem? hp)
 obtain ⟨hO, hxl, hor⟩ := hi
 rcases hor with ⟨h3, _⟩ | ⟨gg, cap', cur, h3, hb, hg, h4, h5, h6, h7⟩
 ·cases h3
 ·simp only [Value.slice.injEq, Option.some.injEq, Addr.mk.injEq] at h3
  obtain ⟨⟨rfl, _⟩, _, rfl⟩ := h3
  have hcl : o + vs.length ≤ cur.toList.length := by
   rw [← h7, List.length_take] at hl
   omega
  obtain ⟨w', hr', hh, hkp⟩ := run_storeAt_blk (P := P) (o := o) (vs := vs) (cs := cur.toList) (t' := e) (w := w) (b := g0) (by simpa using hg) hs hv.eq hk hcl h1
  refine ⟨w', ?_, hc.turn p hp (j := row base O (some ⟨g0, 0, none⟩) m cap e size (putL xs o vs)) ⟨hkp.os, hkp.tape, hkp.output, hkp.size, fun k hk hn => hkp.block k hk (fun e2 => hn (by rw [show k = g0 from e2]; exact ⟨hb, hO _ rfl⟩))⟩ ?_ (fun q hq => ⟨.inl hq, Nat.lt_of_lt_of_le (hc.lt _ (List.mem_of_getElem? hp) q hq) hkp.size⟩) (fun q hq => hq)⟩
  ·simp only [execOp, hs'.eval hx rfl, hs'.eval hy rfl, Sem.run_bind, hr', Result.andThen_ok]; rfl
  ·refine ⟨hO, by rw [putL_length']; exact hxl, .inr ⟨g0, cap, (putL cur.toList o vs).toArray, rfl, hb, hh, h4, h5, by rw [List.size_toArray, putL_length']; simpa using h6, ?_⟩⟩
   rw [← h7]
   exact putL_takeC _ _ _ _
theorem Cls.pool_join {α μ : Type} {R : Rel α μ} {O : Nat → Prop} {l : List (α × μ)} {x : α} {y : μ} (h : Cls (i :: pool R B O l :: H) S w) (hB : ∀ k, i.own k → B ≤ k) (hok : R.ok w (fun k => B ≤ k ∧ (O k ∨ i.own k)) x y) : Cls (pool R B (fun k => O k ∨ i.own k) (l ++ [(x, y)]) :: H) S w := by
 have hp := h.item (i := pool R B O l) (by simp)
 have hd := h.dj
 rw [List.pairwise_cons, List.pairwise_cons] at hd
 obtain ⟨hr1, hp1, hH⟩ := hd
 refine ⟨fun j hj => ?_, fun j hj => ?_, ?_, fun s hs => (h.kp s hs).mono fun k _ ⟨j, hj, hk⟩ => ?_⟩
 ·rcases List.mem_cons.1 hj with rfl | hj
  ·intro p hpm
   rcases List.mem_append.1 hpm with hpm | hpm
   ·exact R.mono (fun k hk => ⟨hk.1, .inl hk.2⟩) (hp p hpm)
   ·obtain rfl := List.mem_singleton.1 hpm
    exact hok
  ·exact h.holds j (by simp [hj])
 ·rcases List.mem_cons.1 hj with rfl | hj
  ·rintro k ⟨h1, h2 | h2⟩
   ·exact h.lt (pool R B O l) (by simp) k ⟨h1, h2⟩
   ·exact h.lt i (by simp) k h2
  ·exact h.lt j (by simp [hj])
 ·refine List.pairwise_cons.2 ⟨fun j hj k hk hj2 => ?_, hH⟩
  obtain ⟨h1, h2 | h2⟩ := hk
  ·exact hp1 j hj k ⟨h1, h2⟩ hj2
  ·exact hr1 j (by simp [hj]) k h2 hj2
 ·rcases List.mem_cons.1 hj with rfl | hj
  ·exact ⟨_, .head _, hB k hk, .inr hk⟩
  ·rcases List.mem_cons.1 hj with rfl | hj
   ·exact ⟨_, .head _, hk.1, .inl hk.2⟩
   ·exact ⟨j, by simp [hj], hk⟩
end
section
variable {P : Program} {n : Nm} {l : Env} {C : World → Prop} {c : Bool} {d : Option Nat} {ty : TypeId} {pos : String} {af : Array Edge} {g : Option (Nat × Bool)} {t : TypeId} {x : Operand} {cx : Bool}
theorem Cls.nothing_in {H : List Item} {S : List World} {w : World} (h : Cls H S w) : Cls (nothing :: H) S w := h.add (Keep.refl _ w) _ trivial (fun k hk => hk.elim)
theorem row_is {w : World} {base m cap size : Nat} {O : Nat → Prop} {q : Option Addr} {e : TypeId} {xs : List Value} (h : (row base O q m cap e size xs).holds w) (hx : 0 < xs.length) : ∃ g, q = some ⟨g, 0, none⟩ ∧ base ≤ g := by
 obtain ⟨a, h1, h2, h3⟩ := SlAt.of_row h hx
 rcases h.2.2 with ⟨h4, h5⟩ | ⟨g, cap', cur, h4, h5, _⟩
 ·simp only [Value.slice.injEq] at h4
  rw [h4.1] at h1; cases h1
 ·simp only [Value.slice.injEq] at h4
  exact ⟨g, h4.1, h5⟩
end
end Go.Eng

/- The walk of the reference's Split, where splitOne is known of its values. Conditions: none. -/
namespace Go.Pt
open Go.Eng Go.RowKit
def GoodP (D : List Da) (p : Ty) : Prop := Wf D p ∧ wt p ≤ 800
def both (O : Nat → Prop) (w w' : World) (k : Nat) : Prop := O k ∨ fresh w w' k
theorem alive_take {rs : List (List Ty × PY)} {V : List Ty} {k i : Nat} {u : List Ty × PY} {p : Ty} (h : rs[i]? = some u) (hp : u.1[k]? = some p) : col (alive ((rs.take (i + 1)).map Prod.fst) V) k = col (alive ((rs.take i).map Prod.fst) V) k ++ if 0 ≤ fitA u.1 V then [p] else [] := by
 rw [List.take_add_one, h, Option.toList_some, List.map_append, List.map_cons, List.map_nil]
 unfold alive col
 rw [List.filter_append, List.filterMap_append]
 congr 1
 by_cases hf : 0 ≤ fitA u.1 V
 ·rw [if_pos hf, List.filter_cons, if_pos (decide_eq_true hf), List.filter_nil, List.filterMap_cons, hp]
  rfl
 ·rw [if_neg hf, List.filter_cons, if_neg (by simpa using hf), List.filter_nil]
  rfl
theorem splitOne_nil (D : List Da) (v : Ty) : splitOne D v [] = [] := by
 by_cases h3 : v.kind = 3
 ·rw [splitOne_con D h3]
  unfold kids Pt.Split
  have : ∀ (xs : List Ty) (k : Nat), (∀ x ∈ xs, splitOne D x [] = []) → splitL D xs k [] = none := fun xs => by
   induction xs with
   | nil => intro k _; rw [splitL]
   | cons x xs ih =>
    intro k hx
    rw [splitL, show col [] k = [] from rfl, hx x (.head _)]
    exact ih (k + 1) (fun y hy => hx y (.tail _ hy))
  have ha : alive (List.map (fun x : Ty => x.args) (List.filter (fun q : Ty => decide (q.kind = 3)) [])) v.args = [] := rfl
  rw [ha, this v.args 0 (fun x hx => splitOne_nil D x)]
  rfl
 by_cases h2 : v.kind = 2
 ·exact splitOne_int D h2 []
 ·cases v with
  | mk k nm n xs =>
   have h3 : ¬ k = 3 := h3
   have h2 : ¬ k = 2 := h2
   rw [splitOne, if_neg h3, if_neg h2]
   rfl
termination_by v.sz
decreasing_by
 obtain ⟨j, hj⟩ := List.getElem?_of_mem hx
 have h1 := Ty.sz_get hj
 have h2 := sz_args v
 omega
structure GC where
 O : Nat → Prop
 q : Option Addr
 c : Nat
 ps : List (List Ty × PY)
end Go.Pt
namespace Go.Proofs.Ytleggdmhihcafaa.pt
open Go.RowKit Go.Eng Go.Pt
set_option maxRecDepth 100000
def OneC (qd : Option Addr) (cd : Nat) (ds : List (Da × DY)) (v : Ty) : Prop :=
 ∀ (z : PY) (q : Option Addr) (cap : Nat) (cs : List (List Ty × PY)) (l : List Ty) (w : World) (O : Nat → Prop), cs.map Prod.fst = l.map (fun p => [p]) → cs.length ≤ 64 → (∀ k, O k → k < w.heap.size) → Arr datR w (low w) ds qd → Arr patsR w (low w) cs q → TyO w O v z → (∀ p ∈ l, GoodP (ds.map Prod.fst) p ∧ 0 ≤ fit p v) →
  Calls Try.prog 42 [.slice qd ds.length cd, .slice q cs.length cap, .agg (tyc v z).toArray].toArray w fun e w' => ∃ (q' : Option Addr) (c' : Nat) (ps : List (Ty × PY)), e = .returned (.slice q' ps.length c') ∧ ps.map Prod.fst = splitOne (ds.map Prod.fst) v l ∧ ps.length ≤ 257 ∧ FrA w w' ps q' ∧ (∀ p ∈ ps, TyO w' (both O w w') p.1 p.2) ∧ Ext w w'
def SplC (qd : Option Addr) (cd : Nat) (ds : List (Da × DY)) (vs : List (Ty × PY)) : Prop :=
 ∀ (q q2 : Option Addr) (cap cap2 : Nat) (rs : List (List Ty × PY)) (w : World) (O : Nat → Prop), rs.length ≤ 64 → (∀ k, O k → k < w.heap.size) → Arr datR w (low w) ds qd → Arr patsR w (low w) rs q → Arr tyR w O vs q2 → vs.length ≤ 9223372036854775807 → (∀ r ∈ rs, r.1.length = vs.length ∧ r.1.length ≤ 1000 ∧ ∀ p ∈ r.1, GoodP (ds.map Prod.fst) p) →
  Calls Try.prog 22 [.slice qd ds.length cd, .slice q rs.length cap, .slice q2 vs.length cap2].toArray w fun e w' => ∃ (q' : Option Addr) (c' : Nat) (ls : List (List Ty × PY)), e = .returned (.slice q' ls.length c') ∧ ls.map Prod.fst = Pt.Split (ds.map Prod.fst) (rs.map Prod.fst) (vs.map Prod.fst) ∧ ls.length ≤ 257 ∧ ls.length ≤ c' ∧ FrS w w' (cat patsR.c ls) q' ∧ (∀ r ∈ ls, patsR.ok w' (both O w w') r.1 r.2) ∧ Ext w w'
theorem Split_of (qd : Option Addr) (cd : Nat) (ds : List (Da × DY)) (vs : List (Ty × PY)) (hOne : ∀ v ∈ vs, OneC qd cd ds v.1) : SplC qd cd ds vs := by
 intro q q2 cap cap2 rs w O hr64 hO hd h hv hvl hg
 refine enter Try.func22 rfl Try.ntmps22 rfl (Cls.start w) ?_
 obtain ⟨D, hD⟩ : ∃ D, ds.map Prod.fst = D := ⟨_, rfl⟩
 obtain ⟨R, hR⟩ : ∃ R, rs.map Prod.fst = R := ⟨_, rfl⟩
 obtain ⟨V, hV⟩ : ∃ V, vs.map Prod.fst = V := ⟨_, rfl⟩
 rw [hD] at hg
 rw [hD, hR, hV]
 have hRl : R.length = rs.length := by rw [← hR, List.length_map]
 have hVl : V.length = vs.length := by rw [← hV, List.length_map]
 have hvlow : Arr tyR w (low w) vs q2 := Arr.mono (fun k hk => hO k hk) hv
 (simp only [argEnv, Nat.zero_add, Nat.reduceAdd])
 apply W.sr
 apply oas; rfl; rfl
 apply OL.nx
 apply W.seq
 apply W.sr
 apply omv; rfl; rfl
 apply oop; rfl; apply Pev.len_slice; rfl; exact yes; rfl
 apply omv; rfl; rfl
 apply OL.nx
 apply W.block
 refine W.loop (G := Nat) (fun k => k ≤ vs.length ∧ splitL D (V.drop k) k (alive R V) = splitL D V 0 (alive R V)) (fun k => vs.length - k)
  (fun k => [(0, true, .slice qd ds.length cd), (1, true, .slice q rs.length cap), (2, true, .slice q2 vs.length cap2), (17, true, .slice q2 vs.length cap2), (18, true, .int .i64 (vs.length : Int)), (19, true, .int .i64 (k : Int))])
  (fun k => Cls [] [w]) 0 ⟨Nat.zero_le _, rfl⟩ (by exact Sub.au) (fun w' hw' => hw') ?_
 rintro k ⟨hk, hrest⟩
 simp only at hk hrest ⊢
 apply W.sr
 apply obn; rfl; rfl; rfl; apply Bin.lss
 apply OL.nx
 apply W.seq
 (refine W.cnd (fun hlt => ?_) (fun hlt => ?_)) <;> (try (exfalso; first | omega | exact hlt trivial | contradiction))
 ·obtain ⟨a, u, hqa, hab, hu, hcell, hok⟩ := hv.get (show k < vs.length by omega)
  have hab : a.block < w.heap.size := hO _ hab
  have hcell : CellsAt w (a.add (k * 4)) [.int .i64 u.1.kind, .string u.1.name, .int .i64 u.1.var, .slice u.2.1 u.1.args.length u.2.2] := hcell
  have hVk : V[k]? = some u.1 := by rw [← hV, List.getElem?_map, hu]; rfl
  have hdr : V.drop k = u.1 :: V.drop (k + 1) := by
   have hl : k < V.length := by omega
   rw [List.drop_eq_getElem_cons hl]
   rw [List.getElem?_eq_getElem hl] at hVk
   rw [Option.some.inj hVk]
  rw [hdr, splitL] at hrest
  rw [hqa]
  apply W.sk
  apply W.sb
  apply W.sr
  apply omv; rfl; rfl
  apply oop; rfl; apply Pev.idx; rfl; exact yes; rfl; exact yes; rfl; rfl; intro hcond; omega
  apply oop; rfl; apply Pev.load_keptA; rfl; exact yes; exact .head _; rfl; intro hcond; assumption; rfl; intro hcond; (rw [add_block]; assumption); intro hcond; exact NotOwned.au
  apply OL.alloc; rfl; rfl; exact CellsL.agg; (intro bk hbk; simp only [AllLe, and_true] at hbk)
  apply oas; rfl; rfl
  apply OL.storeB; rfl; rfl; exact CellsL.agg; rfl; rfl; rfl; exact Swap.au; exact Put.au
  apply OL.nsr
  apply oas; rfl; rfl
  apply OL.nx
  apply W.seq
  apply W.sr
  apply omv; rfl; rfl
  apply oop; rfl; apply Pev.len_slice; rfl; exact yes; rfl
  apply omv; rfl; rfl
  apply OL.nx
  apply W.block
  revert bk
  intro b8 hb8
  refine W.loop (G := Nat × GC) (fun g => g.1 ≤ rs.length ∧ g.2.ps.map Prod.fst = (col (alive ((rs.take g.1).map Prod.fst) V) k).map (fun p => [p]) ∧ g.2.ps.length ≤ g.1 ∧ ∀ r ∈ g.2.ps, patsR.ok w (low w) r.1 r.2) (fun g => rs.length - g.1)
   (fun g => [(0, true, .slice qd ds.length cd), (1, true, .slice q rs.length cap), (2, true, .slice (some a) vs.length cap2), (7, true, .int .i64 (k : Int)), (8, true, .pointer (some ⟨b8, 0, none⟩)), (9, true, .slice g.2.q g.2.ps.length g.2.c), (17, true, .slice (some a) vs.length cap2), (18, true, .int .i64 (vs.length : Int)), (19, true, .int .i64 (k : Int)), (24, true, .slice q rs.length cap), (25, true, .int .i64 (rs.length : Int)), (26, true, .int .i64 (g.1 : Int))])
   (fun g => Cls [row w.heap.size g.2.O g.2.q g.2.ps.length g.2.c 25 1 (cat patsR.c g.2.ps), blk b8 50 [.int .i64 u.1.kind, .string u.1.name, .int .i64 u.1.var, .slice u.2.1 u.1.args.length u.2.2]] [w]) (0, ⟨fun _ => False, none, 0, []⟩) ⟨Nat.zero_le _, rfl, Nat.le_refl _, fun r hr => by cases hr⟩ (by exact Sub.au) (fun w' hw' => hw'.row_nil w.heap.size 25 1) ?_
  rintro ⟨i, Oc, qc, cc, cs⟩ ⟨hi, hcs, hcl, hcok⟩
  simp only at hi hcs hcl hcok ⊢
  apply W.sr
  apply obn; rfl; rfl; rfl; apply Bin.lss
  apply OL.nx
  apply W.seq
  (refine W.cnd (fun hlti => ?_) (fun hlti => ?_)) <;> (try (exfalso; first | omega | exact hlti trivial | contradiction))
  ·obtain ⟨ar, r, hqr, habr, hr, hcellr, hokr⟩ := h.get (show i < rs.length by omega)
   have habr : ar.block < w.heap.size := habr
   have hcellr : w.cell? (ar.add (i * 1)) = some (.slice r.2.1 r.1.length r.2.2) := hcellr 0 _ rfl
   obtain ⟨⟨pr, hpr, hpra⟩, hrc, hrl⟩ := hokr
   have hprl : pr.length = r.1.length := by rw [← hpr, List.length_map]
   obtain ⟨hrvl, hr1000, hrg⟩ := hg r (List.mem_of_getElem? hr)
   obtain ⟨pk, hpk⟩ : ∃ pk, r.1[k]? = some pk := ⟨_, List.getElem?_eq_getElem (by omega)⟩
   have hstep := alive_take (V := V) hr hpk
   rw [hqr]
   apply W.sk
   apply W.sb
   apply W.sr
   apply oop; rfl; apply Pev.idx; rfl; exact yes; rfl; exact yes; rfl; rfl; intro hcond; omega
   apply oop; rfl; apply Pev.load_kept; rfl; exact yes; exact .head _; rfl; intro hcond; assumption; intro hcond; (rw [add_block]; assumption); intro hcond; exact NotOwned.au
   apply oas; rfl; rfl
   apply OL.nsr
   apply omv; rfl; rfl
   apply omv; rfl; rfl
   (((first | (with_reducible apply OL.op) | (with_reducible apply QL.op)); (exact Guard.au); rfl; rfl); (refine Pev.call (v := .int .i64 (fitA r.1 V)) rfl (by exact Args.au) (fun _ w2 hw2 => ?_)))
   ·have hH : ∀ k, k < w.heap.size → NotOwned [row w.heap.size Oc qc cs.length cc 25 1 (cat patsR.c cs), blk b8 50 [.int .i64 u.1.kind, .string u.1.name, .int .i64 u.1.var, .slice u.2.1 u.1.args.length u.2.2]] k := fun k hk => NotOwned.row (by omega) (NotOwned.blk (by omega) .nil)
    have hc := FitsAll_calls r.2.1 (some a) r.2.2 cap2 pr vs w2 (by omega) (by omega) (hpra.at hw2 (.head _) hH) ((by rw [← hqa]; exact hvlow : Arr tyR w (low w) vs (some a)).at hw2 (.head _) hH) (by omega)
    rw [hprl, hpr, hV] at hc
    exact hc.mono (fun e w3 h => ⟨h.1, hw2.ext h.2⟩)
   apply obn; rfl; rfl; rfl; apply Bin.geq
   apply OL.nx
   refine W.cond rfl (fun hb => ?_) (fun hb => ?_)
   ·have hb : 0 ≤ fitA r.1 V := by simpa using hb
    rw [if_pos hb] at hstep
    apply W.reg
    apply omv; rfl; rfl
    apply omv; rfl; rfl
    apply omv; rfl; rfl
    apply omv; rfl; rfl
    apply obn; rfl; rfl; rfl; apply Bin.add_in; omega
    apply oop; rfl; apply Pev.slice_lh; rfl; exact yes; rfl; exact yes; rfl; exact yes; rfl; rfl; rfl; intro hcond; (simp only [Bool.and_eq_true, Bool.or_eq_true, Bool.not_eq_true', decide_eq_true_eq, decide_eq_false_iff_not] at *; omega)
    apply OL.buildSlice; rfl; rfl; rfl; exact Elems.au; rfl; rfl; (intro bk hbk; simp only [AllLe, and_true] at hbk)
    apply OL.append; rfl; rfl; rfl; rfl; exact Hole.au; exact .head _; exact Take.au; rfl; rfl; exact ⟨_, .head _, Nat.le_refl _⟩; omega; intro O1 g1 cap1
    apply oas; rfl; rfl
    apply OL.nil
    with_reducible apply At.in_normal
    with_reducible apply At.next
    apply W.reg
    apply obn; rfl; rfl; rfl; apply Bin.add_in; omega
    apply omv; rfl; rfl
    apply OL.nil
    obtain ⟨uc, huc⟩ : ∃ uc : List Ty × PY, uc = ([pk], (cutq r.2.1 r.2.2 k 4, r.2.2 - k)) := ⟨_, rfl⟩
    have e1 : cs.length + 1 = (cs ++ [uc]).length := by simp
    have e2 : cat patsR.c cs ++ [Value.slice (cutq r.2.1 r.2.2 k 4) (k + 1 - k) (r.2.2 - k)] = cat patsR.c (cs ++ [uc]) := by
     rw [cat_append, huc, Nat.add_sub_cancel_left]
     rfl
    rw [e1, e2]
    refine At.again (i + 1, ⟨O1, some ⟨g1, 0, none⟩, cap1, cs ++ [uc]⟩) ⟨by simp only; omega, ?_, by simp only [← e1]; omega, fun x hx => (List.mem_append.1 hx).elim (hcok x) (fun hx => ?_)⟩ (by simp only; omega) (by exact Sub.au) (fun w' hw' => hw'.thin (by exact Thin.au))
    ·simp only [hstep, List.map_append, hcs, huc]
     rfl
    ·rw [List.mem_singleton] at hx
     rw [hx, huc]
     refine ⟨⟨(pr.drop k).take 1, ?_, Arr.take (Arr.drop hpra (by omega) k) 1⟩, ?_, ?_⟩
     ·rw [← hpr, List.getElem?_map] at hpk
      obtain ⟨z, hz, hz2⟩ := Option.map_eq_some_iff.1 hpk
      rw [show (pr.drop k).take 1 = [z] by
       have hl := (List.getElem?_eq_some_iff.1 hz).1
       rw [List.drop_eq_getElem_cons hl, List.take_succ_cons, List.take_zero]
       rw [List.getElem?_eq_getElem hl] at hz
       rw [Option.some.inj hz]]
      rw [List.map_singleton, hz2]
     ·show 1 ≤ r.2.2 - k
      omega
     ·show 1 ≤ 9223372036854775807
      omega
   ·have hb : ¬ 0 ≤ fitA r.1 V := by simpa using hb
    rw [if_neg hb, List.append_nil] at hstep
    apply W.skip
    with_reducible apply At.in_normal
    with_reducible apply At.next
    apply W.reg
    apply obn; rfl; rfl; rfl; apply Bin.add_in; omega
    apply omv; rfl; rfl
    apply OL.nil
    exact At.again (i + 1, ⟨Oc, qc, cc, cs⟩) ⟨by simp only; omega, by simp only [hstep]; exact hcs, by simp only; omega, hcok⟩ (by simp only; omega) (by exact Sub.au) (fun w' hw' => hw')
  ·obtain rfl : i = rs.length := by omega
   refine W.xt ?_
   with_reducible apply At.next
   apply W.sr
   apply omv; rfl; rfl
   apply omv; rfl; rfl
   apply oop; rfl; apply Pev.load_blkA; rfl; exact yes; exact .tail _ (.head _); rfl; exact Take.au
   rw [show (rs.take rs.length).map Prod.fst = R by rw [List.take_length, hR]] at hcs
   have hlg : ∀ p ∈ col (alive R V) k, GoodP D p ∧ 0 ≤ fit p u.1 := fun p hp => by
    obtain ⟨r, h1, h2⟩ := col_mem.1 hp
    obtain ⟨h3, h4⟩ := alive_mem.1 h1
    rw [← hR] at h3
    obtain ⟨x, hx, rfl⟩ := List.mem_map.1 h3
    exact ⟨(hg x hx).2.2 p (List.mem_of_getElem? h2), fitA_all h4 k p u.1 h2 hVk⟩
   have hHc : ∀ k, k < w.heap.size → NotOwned [row w.heap.size Oc qc cs.length cc 25 1 (cat patsR.c cs), blk b8 50 [.int .i64 u.1.kind, .string u.1.name, .int .i64 u.1.var, .slice u.2.1 u.1.args.length u.2.2]] k := fun k hk => NotOwned.row (by omega) (NotOwned.blk (by omega) .nil)
   refine OL.callE (α := (Option Addr × Nat × List (Ty × PY)) × World) (fun z => .slice z.1.1 z.1.2.2.length z.1.2.1) (fun z => z.1.2.2.map Prod.fst = splitOne D u.1 (col (alive R V) k) ∧ z.1.2.2.length ≤ 257 ∧ FrA w z.2 z.1.2.2 z.1.1 ∧ (∀ p ∈ z.1.2.2, TyO z.2 (both O w z.2) p.1 p.2) ∧ Ext w z.2) (fun z => Cls [] [z.2, w]) rfl rfl (by exact Args.au) (fun w2 hw2 => ?_) ?_
   ·have hx2 := hw2.toExt (s := w) (.head _) hHc
    have hc := hOne u (List.mem_of_getElem? hu) u.2 qc cc cs (col (alive R V) k) w2 O hcs (by omega) (fun k hk => Nat.lt_of_lt_of_le (hO k hk) hx2.size) (hd.at hw2 (.head _) hHc) (Arr.of_row (hw2.item (.head _)) hcok hx2) (TyO.stab (fun k hk => hw2.same (.head _) hHc k (hO k hk)) hok) (by rw [hD]; exact hlg)
    rw [hD] at hc
    refine hc.mono ?_
    rintro e w3 ⟨q', c', ps, h1, h2, h3, h4, h5, h6⟩
    refine ⟨((q', c', ps), w3), h1, ⟨h2, h3, fun hl => ?_, fun p hp => TyO.mono (fun k hk => ?_) (h5 p hp), hx2.trans h6⟩, ((hw2.ext h6).thin (.row ⟨Nat.le_refl _, trivial⟩ (.blk ⟨hb8, trivial⟩ Thin.same))).note⟩
    ·obtain ⟨a, g1, g2, g3⟩ := h4 hl
     exact ⟨a, g1, ⟨Nat.le_trans hx2.size g2.1, g2.2⟩, g3⟩
    ·rcases hk with hk | hk
     ·exact .inl hk
     ·exact .inr ⟨Nat.le_trans hx2.size hk.1, hk.2⟩
   rintro ⟨⟨qp, cp, ps⟩, w1⟩ ⟨hps, hpl, hpf, hpok, hx1⟩
   simp only at hps hpl hpf hpok hx1 ⊢
   have hw1s := hx1.size
   apply oas; rfl; rfl
   apply OL.nx
   apply W.seq
   apply W.sr
   apply omv; rfl; rfl
   apply oop; rfl; apply Pev.len_slice; rfl; exact yes; rfl
   apply obn; rfl; rfl; rfl; apply Bin.eql
   apply OL.nx
   by_cases hp0 : ps.length = 0
   ·have he : (splitOne D u.1 (col (alive R V) k)).isEmpty = true := by rw [← hps, List.length_eq_zero_iff.1 hp0]; rfl
    rw [if_pos he] at hrest
    refine W.cond rfl (fun _ => ?_) (fun hb => absurd (of_decide_eq_false hb) (by omega))
    refine W.xt ?_
    with_reducible apply At.next
    apply W.reg
    apply obn; rfl; rfl; rfl; apply Bin.add_in; omega
    apply omv; rfl; rfl
    apply OL.nil
    exact At.again (k + 1) ⟨by omega, hrest⟩ (by omega) (by exact Sub.au) (fun w' hw' => hw'.forget (by simp))
   have he : ¬ (splitOne D u.1 (col (alive R V) k)).isEmpty = true := by
    rw [← hps, List.isEmpty_iff, List.map_eq_nil_iff]
    intro h
    rw [h] at hp0
    exact hp0 rfl
   rw [if_neg he] at hrest
   have hSp : Pt.Split D R V = ps.map (fun x => V.set k x.1) := by
    unfold Pt.Split
    rw [← hrest, ← hps]
    simp [List.map_map, Function.comp_def]
   have hv1000 : vs.length ≤ 1000 := by
    refine Classical.byContradiction fun hgt => he ?_
    have hnil : col (alive R V) k = [] := by
     refine List.eq_nil_iff_forall_not_mem.2 fun p hp => ?_
     obtain ⟨r, h1, h2⟩ := col_mem.1 hp
     obtain ⟨h3, h4⟩ := alive_mem.1 h1
     rw [← hR] at h3
     obtain ⟨x, hx, rfl⟩ := List.mem_map.1 h3
     obtain ⟨g1, g2, _⟩ := hg x hx
     omega
    rw [hnil, splitOne_nil]
    rfl
   refine W.cond rfl (fun hb => absurd (of_decide_eq_true hb) (by omega)) (fun _ => ?_)
   apply W.sk
   apply W.sr
   apply oas; rfl; rfl
   apply OL.nx
   apply W.seq
   apply W.sr
   apply omv; rfl; rfl
   apply oop; rfl; apply Pev.len_slice; rfl; exact yes; rfl
   apply omv; rfl; rfl
   apply OL.nx
   apply W.block
   have hO1 : ∀ k, both O w w1 k → k < w1.heap.size := fun k hk => by
    rcases hk with hk | hk
    ·exact Nat.lt_of_lt_of_le (hO k hk) hx1.size
    ·exact hk.2
   have hvs : ∀ p ∈ vs, TyO w1 (both O w w1) p.1 p.2 := fun p hp => TyO.mono (fun k hk => .inl hk) (TyO.stab (fun k hk => hx1.block k (hO k hk) id) (hv.el p hp))
   obtain ⟨E, hE⟩ : ∃ E : Ty × PY → Prop, E = fun p => TyO w1 (both O w w1) p.1 p.2 := ⟨_, rfl⟩
   refine W.loop (G := Nat × GE × (Nat → Prop)) (fun g => g.1 ≤ ps.length ∧ g.2.1.ps.map (fun r => r.1.map Prod.fst) = (ps.take g.1).map (fun x => V.set k x.1) ∧ g.2.1.ps.length ≤ g.1) (fun g => ps.length - g.1)
    (fun g => [(2, true, .slice (some a) vs.length cap2), (7, true, .int .i64 (k : Int)), (13, true, .slice g.2.1.q g.2.1.ps.length g.2.1.c), (50, true, .slice qp ps.length cp), (51, true, .int .i64 (ps.length : Int)), (52, true, .int .i64 (g.1 : Int))])
    (fun g => Cls [row w1.heap.size g.2.1.O g.2.1.q g.2.1.ps.length g.2.1.c 25 1 (cat (patsE E).c g.2.1.ps), pool (patsE E) w1.heap.size g.2.2 g.2.1.ps] [w1, w]) (0, ⟨fun _ => False, none, 0, []⟩, fun _ => False) ⟨Nat.zero_le _, rfl, Nat.le_refl _⟩ (by exact Sub.au) (fun w' hw' => (hw'.pool_nil _ w1.heap.size).row_nil w1.heap.size 25 1) ?_
   rintro ⟨j, ⟨Oo, qo, co, ls⟩, O2⟩ ⟨hj, hls, hll⟩
   simp only at hj hls hll ⊢
   apply W.sr
   apply obn; rfl; rfl; rfl; apply Bin.lss
   apply OL.nx
   apply W.seq
   (refine W.cnd (fun hltj => ?_) (fun hltj => ?_)) <;> (try (exfalso; first | omega | exact hltj trivial | contradiction))
   ·obtain ⟨ap, p, hqp, habp, hp, hcellp⟩ : ∃ ap p, qp = some ap ∧ fresh w w1 ap.block ∧ ps[j]? = some p ∧ CellsAt w1 (ap.add (j * 4)) [.int .i64 p.1.kind, .string p.1.name, .int .i64 p.1.var, .slice p.2.1 p.1.args.length p.2.2] := by
     obtain ⟨ap, g1, g2, g3⟩ := hpf (by omega)
     have hl : j < ps.length := by omega
     refine ⟨ap, ps[j], g1, g2, List.getElem?_eq_getElem hl, fun m v hm => ?_⟩
     rw [add_add]
     exact g3 _ _ (cat_get tyR.clen (List.getElem?_eq_getElem hl) m v hm)
    have habp1 : ap.block < w1.heap.size := habp.2
    rw [hqp]
    apply W.sk
    apply W.sb
    apply W.sr
    apply oop; rfl; apply Pev.idx; rfl; exact yes; rfl; exact yes; rfl; rfl; intro hcond; omega
    apply oop; rfl; apply Pev.load_keptA; rfl; exact yes; exact .head _; rfl; intro hcond; assumption; rfl; intro hcond; (rw [add_block]; assumption); intro hcond; exact NotOwned.au
    apply OL.alloc; rfl; rfl; exact CellsL.agg; (intro bk hbk; simp only [AllLe, and_true] at hbk)
    apply OL.storeB; rfl; rfl; exact CellsL.agg; rfl; rfl; rfl; exact Swap.au; exact Put.au
    apply OL.nsr
    apply OL.buildSlice; rfl; rfl; rfl; exact Elems.au; rfl; rfl; (intro bk hbk; simp only [AllLe, and_true] at hbk)
    apply omv; rfl; rfl
    have hvw : Arr tyR w1 (both O w w1) vs (some a) := by
     rw [← hqa]
     exact ⟨fun hl => by
      obtain ⟨a9, g1, g2, g3⟩ := hv.at_ hl
      exact ⟨a9, g1, .inl g2, cells_stab (hx1.block _ (hO _ g2) id) g3⟩, hvs⟩
    have hvw1 : Arr tyR w1 (low w1) vs (some a) := Arr.mono hO1 hvw
    rename_i b15 hb15
    revert bk
    intro b16 hb16
    refine OL.cls (C' := Cls (nothing :: [blk b16 50 [], blk b15 50 [.int .i64 p.1.kind, .string p.1.name, .int .i64 p.1.var, .slice p.2.1 p.1.args.length p.2.2], row w1.heap.size Oo qo ls.length co 25 1 (cat (patsE E).c ls), pool (patsE E) w1.heap.size O2 ls]) [w1, w]) (fun w' hw' => hw'.nothing_in) ?_
    have hHs : ∀ k, k < w1.heap.size → NotOwned (nothing :: [blk b16 50 [], blk b15 50 [.int .i64 p.1.kind, .string p.1.name, .int .i64 p.1.var, .slice p.2.1 p.1.args.length p.2.2], row w1.heap.size Oo qo ls.length co 25 1 (cat (patsE E).c ls), pool (patsE E) w1.heap.size O2 ls]) k := fun k hk => NotOwned.any (fun h => h.elim) (NotOwned.blk (by omega) (NotOwned.blk (by omega) (NotOwned.row (by omega) (NotOwned.pool (by omega) .nil))))
    ((apply OL.appendF (xs := []) (news := cat tyR.c vs) (base := w1.heap.size)); rfl; rfl; rfl; rfl; (exact Hole.au); (exact fun w2 hw2 => SlAt.nil); rfl; (exact fun w2 hw2 => (hvw1.at hw2 (.head _) hHs).slAt); (exact cat_length tyR.clen vs); (exact cat_oneL pat_one vs); (omega); (exact ⟨w1, .head _, Nat.le_refl _⟩); (omega); (exact fun h => by cases h); (intro O5 q5 c5))
    rw [List.nil_append, Nat.zero_add]
    refine OL.fact (φ := ∃ g, q5 = some ⟨g, 0, none⟩ ∧ w1.heap.size ≤ g) (fun w' hw' => row_is (hw'.item (.head _)) (by rw [cat_length (f := tyR.c) tyR.clen]; exact Nat.mul_pos (by omega) tyR.pos)) (fun hq5 => ?_)
    obtain ⟨g5, rfl, hg5⟩ := hq5
    apply oas; rfl; rfl
    apply OL.nsr
    apply omv; rfl; rfl
    apply omv; rfl; rfl
    apply oop; rfl; apply Pev.load_blkA; rfl; exact yes; exact .tail _ (.tail _ (.head _)); rfl; exact Take.au
    apply oop; rfl; apply Pev.idxB; rfl; exact yes; rfl; exact yes; rfl; intro hcond; omega; rfl
    have hkl : k < vs.length := by omega
    ((refine OL.storeRA rfl rfl CellsL.agg rfl rfl rfl Hole.au ?_ ?_); (rw [cat_length (f := tyR.c) tyR.clen]; show 0 + k * 4 + 4 ≤ vs.length * 4; omega))
    rw [show putL (cat tyR.c vs) (0 + (k : Int).toNat * 4) [Value.int .i64 p.1.kind, .string p.1.name, .int .i64 p.1.var, .slice p.2.1 p.1.args.length p.2.2] = cat tyR.c (vs.set k p) by
     rw [Nat.zero_add, Int.toNat_natCast]
     exact cat_set (f := tyR.c) (sz := 4) (fun x => rfl) (by decide) hkl]
    apply OL.nx
    apply W.reg
    apply omv; rfl; rfl
    apply omv; rfl; rfl
    apply OL.buildSlice; rfl; rfl; rfl; exact Elems.au; rfl; rfl; (intro bk hbk; simp only [AllLe, and_true] at hbk)
    apply OL.append; rfl; rfl; rfl; rfl; exact Hole.au; exact .head _; exact Take.au; rfl; rfl; exact ⟨_, .head _, Nat.le_refl _⟩; omega; intro O1 g1 cap1
    apply oas; rfl; rfl
    apply OL.nil
    with_reducible apply At.in_normal
    with_reducible apply At.next
    apply W.reg
    apply obn; rfl; rfl; rfl; apply Bin.add_in; omega
    apply omv; rfl; rfl
    apply OL.nil
    obtain ⟨un, hun⟩ : ∃ un : List (Ty × PY) × PY, un = (vs.set k p, (some ⟨g5, 0, none⟩, c5)) := ⟨_, rfl⟩
    have e1 : ls.length + 1 = (ls ++ [un]).length := by simp
    have e2 : cat (patsE E).c ls ++ [Value.slice (some ⟨g5, 0, none⟩) vs.length c5] = cat (patsE E).c (ls ++ [un]) := by
     rw [cat_append, hun]
     congr 1
     show _ = [Value.slice (some ⟨g5, 0, none⟩) (vs.set k p).length c5]
     rw [List.length_set]
    rw [e1, e2]
    refine At.again (j + 1, ⟨O1, some ⟨g1, 0, none⟩, cap1, ls ++ [un]⟩, fun x => O2 x ∨ (row w1.heap.size O5 (some ⟨g5, 0, none⟩) vs.length c5 50 4 (cat tyR.c (vs.set k p))).own x) ⟨by simp only; omega, ?_, by simp only [← e1]; omega⟩ (by simp only; omega) (by exact Sub.au) (fun w' hw' => ?_)
    ·simp only [List.map_append, hls, hun, List.take_add_one, hp, Option.toList_some, List.map_cons, List.map_nil, List.map_set, hV]
    ·have h3 := (hw'.thin (H' := [row w1.heap.size O5 (some ⟨g5, 0, none⟩) vs.length c5 50 4 (cat tyR.c (vs.set k p)), row w1.heap.size O1 (some ⟨g1, 0, none⟩) (ls ++ [un]).length cap1 25 1 (cat (patsE E).c (ls ++ [un])), pool (patsE E) w1.heap.size O2 ls]) (.blk (by simp only [AllLe, and_true]; omega) (.keep (.blk (by simp only [AllLe, and_true]; omega) (.blk (by simp only [AllLe, and_true]; omega) Thin.same))))).perm (List.Perm.cons _ (List.Perm.swap _ _ _))
     have hrow := h3.item (.head _)
     have hcap := row_cap hrow
     have h4 := h3.pool_join (x := vs.set k p) (y := (some ⟨g5, 0, none⟩, c5)) (fun x hx => hx.1) ⟨fun hl => ?_, by rw [List.length_set]; exact hcap, by rw [List.length_set]; exact hvl, fun z hz => ?_⟩
     ·rw [← hun] at h4
      exact h4.flip
     ·obtain ⟨a9, g1, g2, g3⟩ := SlAt.of_row hrow (by rw [cat_length (f := tyR.c) tyR.clen]; exact Nat.mul_pos hl tyR.pos)
      obtain rfl := Option.some.inj g1
      exact ⟨_, rfl, ⟨hg5, .inr ⟨hg5, hrow.1 _ rfl⟩⟩, g3⟩
     ·rw [hE]
      rcases List.mem_or_eq_of_mem_set hz with hz | hz
      ·exact hvs z hz
      ·rw [hz]
       exact hpok p (List.mem_of_getElem? hp)
   ·obtain rfl : j = ps.length := by omega
    rw [List.take_length] at hls
    rw [hSp]
    refine W.xt ?_
    with_reducible apply At.next
    apply W.sr
    apply omv; rfl; rfl
    apply oas; rfl; rfl
    apply OL.nx
    refine W.rt ?_
    ((with_reducible apply At.fin1); rfl; rfl; intro w' hw')
    have hrow := hw'.item (i := row w1.heap.size Oo qo ls.length co 25 1 (cat (patsE E).c ls)) (.head _)
    have hpool := hw'.item (i := pool (patsE E) w1.heap.size O2 ls) (.tail _ (.head _))
    have hHe : ∀ k, k < w1.heap.size → NotOwned [row w1.heap.size Oo qo ls.length co 25 1 (cat (patsE E).c ls), pool (patsE E) w1.heap.size O2 ls] k := fun k hk => NotOwned.row (by omega) (NotOwned.pool (by omega) .nil)
    have hx2 : Ext w1 w' := hw'.toExt (.head _) hHe
    have hcat : cat patsR.c (ls.map fun r => (r.1.map Prod.fst, r.2)) = cat (patsE E).c ls := by
     clear hrow hpool hHe hw' hls hll
     induction ls with
     | nil => rfl
     | cons r l ih =>
      simp only [List.map_cons, cat]
      rw [ih]
      show [Value.slice r.2.1 (r.1.map Prod.fst).length r.2.2] ++ _ = [Value.slice r.2.1 r.1.length r.2.2] ++ _
      rw [List.length_map]
    refine ⟨qo, co, ls.map fun r => (r.1.map Prod.fst, r.2), by rw [List.length_map], ?_, by rw [List.length_map]; omega, by rw [List.length_map]; exact row_cap hrow, ?_, ?_, hx1.trans hx2⟩
    ·rw [← hls, List.map_map]
     rfl
    ·rw [hcat]
     intro hl
     obtain ⟨g, h1, h2⟩ := row_is hrow hl
     obtain ⟨a9, h3, h4, h5⟩ := SlAt.of_row hrow hl
     rw [h1] at h3
     obtain rfl := Option.some.inj h3
     exact ⟨_, h1, ⟨Nat.le_trans hw1s h2, h4⟩, h5⟩
    ·intro r hr
     obtain ⟨z, hz, rfl⟩ := List.mem_map.1 hr
     obtain ⟨k1, k2, k3, k4⟩ := hpool z hz
     have hlo : ∀ k, (w1.heap.size ≤ k ∧ O2 k) → both O w w' k := fun k hk => .inr ⟨by omega, hw'.lt (pool (patsE E) w1.heap.size O2 ls) (.tail _ (.head _)) k hk⟩
     refine ⟨⟨z.1, rfl, ⟨fun hl => ?_, fun y hy => ?_⟩⟩, by rw [List.length_map]; exact k2, by rw [List.length_map]; exact k3⟩
     ·obtain ⟨a9, g1, g2, g3⟩ := k1 hl
      exact ⟨a9, g1, hlo _ g2, g3⟩
     ·have hy := k4 y hy
      rw [hE] at hy
      refine TyO.mono (fun k hk => ?_) (TyO.stab (fun k hk => hx2.block k (hO1 k hk) id) hy)
      rcases hk with hk | hk
      ·exact .inl hk
      ·exact .inr ⟨hk.1, Nat.lt_of_lt_of_le hk.2 hx2.size⟩
 ·obtain rfl : k = vs.length := by omega
  rw [List.drop_eq_nil_of_le (by omega), splitL] at hrest
  have hSp : Pt.Split D R V = [] := by unfold Pt.Split; rw [← hrest]
  rw [hSp]
  refine W.xt ?_
  with_reducible apply At.next
  apply W.sr
  apply oas; rfl; rfl
  apply OL.nx
  apply W.ret
  ((with_reducible apply At.fin1); rfl; rfl; intro w' hw')
  exact ⟨none, 0, [], rfl, rfl, by simp, Nat.le_refl _, fun hl => (by cases hl), fun r hr => (by cases hr), by (exact hw'.fr)⟩
end Go.Proofs.Ytleggdmhihcafaa.pt

/- The walk of the reference's splitOne, where Split is known of the value's parts. Conditions: none. -/
namespace Go.Pt
open Go.Eng Go.RowKit
theorem kids_step {l : List Ty} {i : Nat} {p : Ty} (h : l[i]? = some p) : kids (l.take (i + 1)) = kids (l.take i) ++ if p.kind = 3 then [p.args] else [] := by
 rw [List.take_add_one, h, Option.toList_some]
 unfold kids
 rw [List.filter_append, List.map_append]
 congr 1
 by_cases hk : p.kind = 3 <;> simp [hk]
theorem fit_conB {p v : Ty} (h : 0 ≤ fit p v) (hp : p.kind = 3) (hv : v.kind = 3) : p.name = v.name ∧ p.args.length = v.args.length := by
 rw [fit_eq, if_neg (by rw [free_no (.inr hp)]; decide), if_neg (by rw [free_no (.inr hv)]; decide)] at h
 by_cases hc : p.kind ≠ v.kind ∨ (p.kind = 2 ∧ p.var ≠ v.var) ∨ (p.kind = 3 ∧ (p.name ≠ v.name ∨ p.args.length ≠ v.args.length))
 ·rw [if_pos hc] at h
  omega
 ·constructor
  ·exact Classical.byContradiction fun hn => hc (.inr (.inr ⟨hp, .inl hn⟩))
  ·exact Classical.byContradiction fun hn => hc (.inr (.inr ⟨hp, .inr hn⟩))
theorem GoodP.args {D : List Da} {p : Ty} (h : GoodP D p) (hp : p.kind = 3) : p.args.length ≤ 1000 ∧ ∀ a ∈ p.args, GoodP D a := by
 obtain ⟨h1, h2⟩ := h
 have hf : free p = false := free_no (.inr hp)
 have h3 := wt_args hf
 obtain ⟨_, _, _, _, h7⟩ := h1.cons hp
 refine ⟨by omega, fun a ha => ⟨h7 a ha, ?_⟩⟩
 have h4 := wtA_mem ha
 rw [wt_eq, if_neg (by simp [hf])] at h2
 omega
theorem words_step {l : List Ty} {i : Nat} {p : Ty} (h : l[i]? = some p) : wordsOf (l.take (i + 1)) = if p.kind = 2 then addW (wordsOf (l.take i)) p.var else wordsOf (l.take i) := by
 rw [List.take_add_one, h, Option.toList_some]
 unfold wordsOf
 rw [List.foldl_append]
 rfl
theorem addW_len (ws : List Int) (n : Int) : (addW ws n).length ≤ ws.length + 1 := by
 unfold addW
 split
 ·omega
 ·simp
theorem words_len (l : List Ty) : ∀ i, i ≤ l.length → (wordsOf (l.take i)).length ≤ i := fun i => by
 induction i with
 | zero => intro _; exact Nat.le_refl _
 | succ i ih =>
  intro h
  have h1 := ih (by omega)
  rw [words_step (List.getElem?_eq_getElem (show i < l.length by omega))]
  split
  ·have := addW_len (wordsOf (l.take i)) (l[i]'(by omega)).var
   omega
  ·omega
theorem unk_int {D : List Da} {l : List Ty} (h : ∀ x ∈ l, x.kind ≠ 3) : unk D l = unkI (wordsOf l) := by
 unfold unk
 rw [List.find?_eq_none.2 (fun x hx => by simpa using h x hx)]
theorem unk_con {D : List Da} {l : List Ty} {i : Nat} {p : Ty} {d : Nat} {c : Co} (h : ∀ x ∈ l.take i, x.kind ≠ 3) (hp : l[i]? = some p) (hk : p.kind = 3) (hc : conAt D p.name = some (d, c)) : unk D l = (consOf D d).map mkC := by
 have hf : l.find? (fun q => decide (q.kind = 3)) = some p := by
  have hl := (List.getElem?_eq_some_iff.1 hp).1
  rw [← List.take_append_drop i l, List.find?_append, List.find?_eq_none.2 (fun x hx => by simpa using h x hx), List.drop_eq_getElem_cons hl]
  rw [List.getElem?_eq_getElem hl] at hp
  rw [Option.some.inj hp, List.find?_cons, decide_eq_true hk]
  rfl
 unfold unk
 rw [hf]
 simp only
 simp only [consFor, hc]
structure GI where
 O : Nat → Prop
 q : Option Addr
 c : Nat
 ps : List Int
end Go.Pt
namespace Go.Proofs.Ytleggdmhihcafaa.pt
open Go.RowKit Go.Eng Go.Pt
set_option maxRecDepth 100000
theorem mkI_ok (w : World) (O : Nat → Prop) {n : Int} (hn : I64 n) : TyO w O (Pt.mkI n) (none, 0) := TyO.of_parts (nm := ⟨#[]⟩) (ps := []) (by simp [I64]) hn (by simp) (Nat.le_refl _) Arr.nil
theorem splitOne_of (qd : Option Addr) (cd : Nat) (ds : List (Da × DY)) (hdl : ds.length ≤ 9223372036854775807) (h256 : ∀ x ∈ ds, x.1.cons.length ≤ 256) (v : Ty) (hSp : ∀ vz : List (Ty × PY), vz.map Prod.fst = v.args → SplC qd cd ds vz) : OneC qd cd ds v := by
 rintro ⟨zq, zc⟩ q cap cs l w O hcs hc64 hO hd h hv hl
 obtain ⟨D, hD⟩ : ∃ D, ds.map Prod.fst = D := ⟨_, rfl⟩
 rw [hD] at hl ⊢
 obtain ⟨vz, hvz, hvza, hvzl, _⟩ := pat_kids hv
 have hvzl2 : vz.length = v.args.length := by rw [← hvz, List.length_map]
 have hll : l.length = cs.length := by
  have := congrArg List.length hcs
  rw [List.length_map, List.length_map] at this
  exact this.symm
 have hne : ∀ r ∈ cs, r.1 ≠ [] := fun r hr => by
  have h1 : r.1 ∈ cs.map Prod.fst := List.mem_map_of_mem hr
  rw [hcs] at h1
  obtain ⟨p, _, hp⟩ := List.mem_map.1 h1
  rw [← hp]
  simp
 have hhead : ∀ i, i < cs.length → ∃ a a2 p y yc, q = some a ∧ a.block < w.heap.size ∧ l[i]? = some p ∧ p ∈ l ∧ w.cell? (a.add (i * 1)) = some (.slice (some a2) 1 yc) ∧ a2.block < w.heap.size ∧ CellsAt w (a2.add (0 * 4)) [.int .i64 p.kind, .string p.name, .int .i64 p.var, .slice y.1 p.args.length y.2] ∧ TyO w (low w) p y := fun i hi => by
  obtain ⟨a, a2, zz, pt, y, h1, h2, h3, h4, h5, h6, h7, _, _⟩ := row_head h hi hne
  have h8 : l[i]? = some zz.1 ∧ pt = [] := by
   have h9 : (cs.map Prod.fst)[i]? = some (zz.1 :: pt.map Prod.fst) := by rw [List.getElem?_map, h3]; rfl
   rw [hcs, List.getElem?_map] at h9
   obtain ⟨p, hp, hp2⟩ := Option.map_eq_some_iff.1 h9
   simp only [List.cons.injEq] at hp2
   rw [hp, hp2.1]
   exact ⟨rfl, by simpa using hp2.2.symm⟩
  obtain ⟨h8, rfl⟩ := h8
  exact ⟨a, a2, zz.1, zz.2, y.2, h1, h2, h8, List.mem_of_getElem? h8, h4, h5, h6, h7.el zz (.head _)⟩
 refine enter Try.func42 rfl Try.ntmps42 rfl (Cls.start w) ?_
 (simp only [argEnv, Nat.zero_add, Nat.reduceAdd])
 simp only [tyc]
 apply W.sr
 apply OL.box; rfl; rfl; exact CellsL.agg; (intro bk hbk; simp only [AllLe, and_true] at hbk)
 apply oas; rfl; rfl
 apply OL.nx
 apply W.seq
 apply W.sr
 apply ofa; rfl; rfl; rfl
 apply old; rfl; rfl; exact .head _; rfl; rfl
 apply obn; rfl; rfl; rfl; apply Bin.eql
 apply OL.nx
 revert bk
 intro b5 hb5
 have hH5 : ∀ k, k < w.heap.size → NotOwned [blk b5 50 [.int .i64 v.kind, .string v.name, .int .i64 v.var, .slice zq v.args.length zc]] k := fun k hk => NotOwned.blk (by omega) .nil
 by_cases hv3 : v.kind = 3
 ·rw [splitOne_con D hv3]
  refine W.cond rfl (fun _ => ?_) (fun hb => absurd (of_decide_eq_false hb) (by omega))
  apply W.sr
  apply oas; rfl; rfl
  apply OL.nx
  apply W.seq
  apply W.sr
  apply omv; rfl; rfl
  apply oop; rfl; apply Pev.len_slice; rfl; exact yes; rfl
  apply omv; rfl; rfl
  apply OL.nx
  apply W.block
  refine W.loop (G := Nat × GC) (fun g => g.1 ≤ cs.length ∧ g.2.ps.map Prod.fst = kids (l.take g.1) ∧ g.2.ps.length ≤ g.1 ∧ ∀ r ∈ g.2.ps, patsR.ok w (low w) r.1 r.2 ∧ r.1.length = v.args.length ∧ r.1.length ≤ 1000 ∧ ∀ p ∈ r.1, GoodP D p) (fun g => cs.length - g.1)
   (fun g => [(0, true, .slice qd ds.length cd), (5, true, .pointer (some ⟨b5, 0, none⟩)), (7, true, .slice g.2.q g.2.ps.length g.2.c), (25, true, .slice q cs.length cap), (26, true, .int .i64 (cs.length : Int)), (27, true, .int .i64 (g.1 : Int))])
   (fun g => Cls [row w.heap.size g.2.O g.2.q g.2.ps.length g.2.c 25 1 (cat patsR.c g.2.ps), blk b5 50 [.int .i64 v.kind, .string v.name, .int .i64 v.var, .slice zq v.args.length zc]] [w]) (0, ⟨fun _ => False, none, 0, []⟩) ⟨Nat.zero_le _, rfl, Nat.le_refl _, fun r hr => by cases hr⟩ (by exact Sub.au) (fun w' hw' => hw'.row_nil w.heap.size 25 1) ?_
  rintro ⟨i, Ob, qb, cb, bs⟩ ⟨hi, hbs, hbl, hbok⟩
  simp only at hi hbs hbl hbok ⊢
  apply W.sr
  apply obn; rfl; rfl; rfl; apply Bin.lss
  apply OL.nx
  apply W.seq
  (refine W.cnd (fun hlt => ?_) (fun hlt => ?_)) <;> (try (exfalso; first | omega | exact hlt trivial | contradiction))
  ·obtain ⟨a, a2, p, y, yc, rfl, hab, hp, hpl, hcell, hab2, hcell2, hpok⟩ := hhead i (by omega)
   have hstep := kids_step hp
   obtain ⟨hgp, hfp⟩ := hl p hpl
   apply W.sk
   apply W.sb
   apply W.sr
   apply oop; rfl; apply Pev.idx; rfl; exact yes; rfl; exact yes; rfl; rfl; intro hcond; omega
   apply oop; rfl; apply Pev.load_kept; rfl; exact yes; exact .head _; rfl; intro hcond; assumption; intro hcond; (rw [add_block]; assumption); intro hcond; exact NotOwned.au
   apply oas; rfl; rfl
   apply OL.nsr
   apply omv; rfl; rfl
   apply oop; rfl; apply Pev.idx; rfl; exact yes; rfl; exact yes; rfl; rfl; intro hcond; (simp only [Bool.and_eq_true, Bool.or_eq_true, Bool.not_eq_true', decide_eq_true_eq, decide_eq_false_iff_not] at *; omega)
   apply oop; rfl; apply Pev.fldA; rfl; exact yes; rfl
   apply oop; rfl; apply Pev.load_kept; rfl; exact yes; exact .head _; rfl; intro hcond; apply CellsAt.at_ (by assumption) rfl; intro hcond; assumption; intro hcond; exact NotOwned.au
   apply obn; rfl; rfl; rfl; apply Bin.eql
   apply OL.nx
   by_cases hp3 : p.kind = 3
   ·rw [if_pos hp3] at hstep
    obtain ⟨hnm, hal⟩ := fit_conB hfp hp3 hv3
    obtain ⟨h1000, hga⟩ := hgp.args hp3
    refine W.cond rfl (fun _ => ?_) (fun hb => absurd (of_decide_eq_false hb) (by omega))
    apply W.reg
    apply omv; rfl; rfl
    apply omv; rfl; rfl
    apply oop; rfl; apply Pev.idx; rfl; exact yes; rfl; exact yes; rfl; rfl; intro hcond; (simp only [Bool.and_eq_true, Bool.or_eq_true, Bool.not_eq_true', decide_eq_true_eq, decide_eq_false_iff_not] at *; omega)
    apply oop; rfl; apply Pev.fldA; rfl; exact yes; rfl
    apply oop; rfl; apply Pev.load_kept; rfl; exact yes; exact .head _; rfl; intro hcond; apply CellsAt.at_ (by assumption) rfl; intro hcond; assumption; intro hcond; exact NotOwned.au
    apply OL.buildSlice; rfl; rfl; rfl; exact Elems.au; rfl; rfl; (intro bk hbk; simp only [AllLe, and_true] at hbk)
    apply OL.append; rfl; rfl; rfl; rfl; exact Hole.au; exact .head _; exact Take.au; rfl; rfl; exact ⟨_, .head _, Nat.le_refl _⟩; omega; intro O1 g1 cap1
    apply oas; rfl; rfl
    apply OL.nil
    with_reducible apply At.in_normal
    with_reducible apply At.next
    apply W.reg
    apply obn; rfl; rfl; rfl; apply Bin.add_in; omega
    apply omv; rfl; rfl
    apply OL.nil
    obtain ⟨ub, hub⟩ : ∃ ub : List Ty × PY, ub = (p.args, y) := ⟨_, rfl⟩
    have e1 : bs.length + 1 = (bs ++ [ub]).length := by simp
    have e2 : cat patsR.c bs ++ [Value.slice y.1 p.args.length y.2] = cat patsR.c (bs ++ [ub]) := by
     rw [cat_append, hub]
     rfl
    rw [e1, e2]
    refine At.again (i + 1, ⟨O1, some ⟨g1, 0, none⟩, cap1, bs ++ [ub]⟩) ⟨by simp only; omega, by simp only [hstep, List.map_append, hbs, hub]; rfl, by simp only [← e1]; omega, fun x hx => (List.mem_append.1 hx).elim (hbok x) (fun hx => ?_)⟩ (by simp only; omega) (by exact Sub.au) (fun w' hw' => hw'.thin (by exact Thin.au))
    rw [List.mem_singleton] at hx
    rw [hx, hub]
    obtain ⟨pz, hpz, hpza, hpzl, _⟩ := pat_kids hpok
    exact ⟨⟨⟨pz, hpz, hpza⟩, hpok.cap, hpzl⟩, hal, h1000, hga⟩
   ·rw [if_neg hp3, List.append_nil] at hstep
    refine W.cond rfl (fun hb => absurd (of_decide_eq_true hb) (by omega)) (fun _ => ?_)
    apply W.skip
    with_reducible apply At.in_normal
    with_reducible apply At.next
    apply W.reg
    apply obn; rfl; rfl; rfl; apply Bin.add_in; omega
    apply omv; rfl; rfl
    apply OL.nil
    exact At.again (i + 1, ⟨Ob, qb, cb, bs⟩) ⟨by simp only; omega, by simp only [hstep]; exact hbs, by simp only; omega, hbok⟩ (by simp only; omega) (by exact Sub.au) (fun w' hw' => hw')
  ·obtain rfl : i = cs.length := by omega
   rw [← hll, List.take_length] at hbs
   refine W.xt ?_
   with_reducible apply At.next
   apply W.sr
   apply oas; rfl; rfl
   apply OL.nx
   apply W.seq
   apply W.sr
   apply omv; rfl; rfl
   apply omv; rfl; rfl
   apply ofa; rfl; rfl; rfl
   apply old; rfl; rfl; exact .tail _ (.head _); rfl; rfl
   have hvlow : Arr tyR w (low w) vz zq := Arr.mono (fun k hk => hO k hk) hvza
   have hHb : ∀ k, k < w.heap.size → NotOwned [row w.heap.size Ob qb bs.length cb 25 1 (cat patsR.c bs), blk b5 50 [.int .i64 v.kind, .string v.name, .int .i64 v.var, .slice zq v.args.length zc]] k := fun k hk => NotOwned.row (by omega) (hH5 k hk)
   obtain ⟨SP, hSPe⟩ : ∃ SP, Pt.Split D (kids l) v.args = SP := ⟨_, rfl⟩
   rw [hSPe]
   refine OL.callE (α := (Option Addr × Nat × List (List Ty × PY)) × World) (fun z => .slice z.1.1 z.1.2.2.length z.1.2.1) (fun z => z.1.2.2.map Prod.fst = SP ∧ z.1.2.2.length ≤ 257 ∧ FrS w z.2 (cat patsR.c z.1.2.2) z.1.1 ∧ (∀ r ∈ z.1.2.2, patsR.ok z.2 (both O w z.2) r.1 r.2) ∧ Ext w z.2 ∧ b5 < z.2.heap.size ∧ CellsAt z.2 ⟨b5, 0, none⟩ [.int .i64 v.kind, .string v.name, .int .i64 v.var, .slice zq v.args.length zc]) (fun z => Cls [] [z.2, w]) rfl rfl (by exact Args.au) (fun w2 hw2 => ?_) ?_
   ·have hx2 := hw2.toExt (s := w) (.head _) hHb
    have hc := hSp vz hvz qb zq cb zc bs w2 O (by omega) (fun k hk => Nat.lt_of_lt_of_le (hO k hk) hx2.size) (hd.at hw2 (.head _) hHb) (Arr.of_row (hw2.item (.head _)) (fun r hr => (hbok r hr).1) hx2) ⟨fun hl => by
     obtain ⟨a9, g1, g2, g3⟩ := hvza.at_ hl
     exact ⟨a9, g1, g2, cells_stab (hx2.block _ (hO _ g2) id) g3⟩, fun p hp => TyO.stab (fun k hk => hx2.block k (hO k hk) id) (hvza.el p hp)⟩ (by omega) (fun r hr => by
     obtain ⟨_, g2, g3, g4⟩ := hbok r hr
     rw [hD]
     exact ⟨by omega, g3, g4⟩)
    rw [hD, hbs, hvz, hvzl2, hSPe] at hc
    refine hc.mono ?_
    rintro e w3 ⟨q', c', ls, h1, h2, h3, h4, h5, h6, h7⟩
    have hb5' := (hw2.ext h7).item (i := blk b5 50 [.int .i64 v.kind, .string v.name, .int .i64 v.var, .slice zq v.args.length zc]) (.tail _ (.head _))
    refine ⟨((q', c', ls), w3), h1, ⟨h2, h3, fun hl => ?_, fun r hr => patsR.mono (fun k hk => ?_) (h6 r hr), hx2.trans h7, blk_lt hb5', fun j v hj => by rw [add_mid, blk_cell hb5', Nat.zero_add]; exact hj⟩, ((hw2.ext h7).thin (.row ⟨Nat.le_refl _, trivial⟩ (.blk ⟨hb5, trivial⟩ Thin.same))).note⟩
    ·obtain ⟨a, g1, g2, g3⟩ := h5 hl
     exact ⟨a, g1, ⟨Nat.le_trans hx2.size g2.1, g2.2⟩, g3⟩
    ·rcases hk with hk | hk
     ·exact .inl hk
     ·exact .inr ⟨Nat.le_trans hx2.size hk.1, hk.2⟩
   rintro ⟨⟨qs, csn, ls⟩, w1⟩ ⟨hls, hlsl, hlsf, hlsok, hx1, hb5l, hb5c⟩
   simp only at hls hlsl hlsf hlsok hx1 hb5l hb5c ⊢
   have hw1s := hx1.size
   apply oop; rfl; apply Pev.len_slice; rfl; exact yes; rfl
   apply omv; rfl; rfl
   apply OL.nx
   apply W.block
   refine W.loop (G := Nat × GT) (fun g => g.1 ≤ ls.length ∧ g.2.ps.map Prod.fst = ((ls.take g.1).map Prod.fst).map (fun a => Ty.mk 3 v.name 0 a) ∧ g.2.ps.length ≤ g.1 ∧ ∀ p ∈ g.2.ps, TyO w1 (both O w w1) p.1 p.2) (fun g => ls.length - g.1)
    (fun g => [(5, true, .pointer (some ⟨b5, 0, none⟩)), (10, true, .slice g.2.q g.2.ps.length g.2.c), (48, true, .slice qs ls.length csn), (49, true, .int .i64 (ls.length : Int)), (50, true, .int .i64 (g.1 : Int))])
    (fun g => Cls [row w1.heap.size g.2.O g.2.q g.2.ps.length g.2.c 50 4 (cat tyR.c g.2.ps)] [w1, w]) (0, ⟨fun _ => False, none, 0, []⟩) ⟨Nat.zero_le _, rfl, Nat.le_refl _, fun p hp => by cases hp⟩ (by exact Sub.au) (fun w' hw' => hw'.row_nil w1.heap.size 50 4) ?_
   rintro ⟨j, Oo, qo, co, os⟩ ⟨hj, hos, hol, hook⟩
   simp only at hj hos hol hook ⊢
   apply W.sr
   apply obn; rfl; rfl; rfl; apply Bin.lss
   apply OL.nx
   apply W.seq
   (refine W.cnd (fun hltj => ?_) (fun hltj => ?_)) <;> (try (exfalso; first | omega | exact hltj trivial | contradiction))
   ·obtain ⟨as_, r, hqs, hasb, hr, hcells⟩ : ∃ as_ r, qs = some as_ ∧ fresh w w1 as_.block ∧ ls[j]? = some r ∧ w1.cell? (as_.add (j * 1)) = some (.slice r.2.1 r.1.length r.2.2) := by
     have hl : j < ls.length := by omega
     obtain ⟨ap, g1, g2, g3⟩ := hlsf (by rw [cat_length (f := patsR.c) patsR.clen]; exact Nat.mul_pos (by omega) patsR.pos)
     refine ⟨ap, ls[j], g1, g2, List.getElem?_eq_getElem hl, ?_⟩
     have := g3 _ _ (cat_get (f := patsR.c) patsR.clen (List.getElem?_eq_getElem hl) 0 _ rfl)
     exact this
    have hasb1 : as_.block < w1.heap.size := hasb.2
    have hcellb : w1.cell? ⟨b5, 0 + 1, none⟩ = some (.string v.name) := hb5c 1 _ rfl
    rw [hqs]
    apply W.sk
    apply W.sb
    apply W.sr
    apply oop; rfl; apply Pev.idx; rfl; exact yes; rfl; exact yes; rfl; rfl; intro hcond; omega
    apply oop; rfl; apply Pev.load_kept; rfl; exact yes; exact .head _; rfl; intro hcond; assumption; intro hcond; (rw [add_block]; assumption); intro hcond; exact NotOwned.au
    apply oas; rfl; rfl
    apply OL.nx
    apply W.reg
    apply omv; rfl; rfl
    apply ofa; rfl; rfl; rfl
    apply oop; rfl; apply Pev.load_kept; rfl; exact yes; exact .head _; rfl; intro hcond; assumption; intro hcond; assumption; intro hcond; exact NotOwned.au
    apply omv; rfl; rfl
    apply oop; rfl; apply Pev.build; rfl; exact CellsL.agg; rfl; exact Fill.au; rfl
    apply OL.buildSlice; rfl; rfl; rfl; exact Elems.au; rfl; rfl; (intro bk hbk; simp only [AllLe, and_true] at hbk)
    apply OL.append; rfl; rfl; rfl; rfl; exact Hole.au; exact .head _; exact Take.au; rfl; rfl; exact ⟨_, .head _, Nat.le_refl _⟩; omega; intro O1 g1 cap1
    apply oas; rfl; rfl
    apply OL.nil
    with_reducible apply At.in_normal
    with_reducible apply At.next
    apply W.reg
    apply obn; rfl; rfl; rfl; apply Bin.add_in; omega
    apply omv; rfl; rfl
    apply OL.nil
    have hrok := hlsok r (List.mem_of_getElem? hr)
    obtain ⟨⟨pr, hpr, hpra⟩, hrc, hrl⟩ := hrok
    have hprl : pr.length = r.1.length := by rw [← hpr, List.length_map]
    obtain ⟨uo, huo⟩ : ∃ uo : Ty × PY, uo = (.mk 3 v.name 0 r.1, r.2) := ⟨_, rfl⟩
    have e1 : os.length + 1 = (os ++ [uo]).length := by simp
    have e2 : cat tyR.c os ++ [Value.int .i64 3, .string v.name, .int .i64 0, .slice r.2.1 r.1.length r.2.2] = cat tyR.c (os ++ [uo]) := by rw [cat_append, huo]; rfl
    rw [e1, e2]
    refine At.again (j + 1, ⟨O1, some ⟨g1, 0, none⟩, cap1, os ++ [uo]⟩) ⟨by simp only; omega, ?_, by simp only [← e1]; omega, fun p hp => (List.mem_append.1 hp).elim (hook p) (fun hp => ?_)⟩ (by simp only; omega) (by exact Sub.au) (fun w' hw' => hw'.thin (by exact Thin.au))
    ·simp only [List.map_append, hos, huo, List.take_add_one, hr, Option.toList_some, List.map_cons, List.map_nil]
    ·rw [List.mem_singleton] at hp
     rw [hp, huo]
     have := TyO.of_parts (k := 3) (v := 0) (nm := v.name) (q := r.2.1) (cap := r.2.2) (w := w1) (O := both O w w1) (ps := pr) (by simp [I64]) (by simp [I64]) (by omega) (by omega) hpra
     rw [hpr] at this
     exact this
   ·obtain rfl : j = ls.length := by omega
    rw [List.take_length, hls] at hos
    refine W.xt ?_
    with_reducible apply At.next
    apply W.sr
    apply omv; rfl; rfl
    apply oas; rfl; rfl
    apply OL.nx
    refine W.rt ?_
    ((with_reducible apply At.fin1); rfl; rfl; intro w' hw')
    have hO1 : ∀ k, both O w w1 k → k < w1.heap.size := fun k hk => by
     rcases hk with hk | hk
     ·exact Nat.lt_of_lt_of_le (hO k hk) hx1.size
     ·exact hk.2
    have hrow := hw'.item (i := row w1.heap.size Oo qo os.length co 50 4 (cat tyR.c os)) (.head _)
    have hx2 : Ext w1 w' := hw'.toExt (.head _) (fun k hk => NotOwned.row (by omega) .nil)
    refine ⟨qo, co, os, rfl, hos, by omega, fun hl => ?_, fun p hp => TyO.mono (fun k hk => ?_) (TyO.stab (fun k hk => hx2.block k (hO1 k hk) id) (hook p hp)), hx1.trans hx2⟩
    ·obtain ⟨a9, g1, g2, g3⟩ := FrA.of_row (w := w1) hw' (.head _) hl
     exact ⟨a9, g1, ⟨Nat.le_trans hw1s g2.1, g2.2⟩, g3⟩
    ·rcases hk with hk | hk
     ·exact .inl hk
     ·exact .inr ⟨hk.1, Nat.lt_of_lt_of_le hk.2 hx2.size⟩
 rw [show splitOne D v l = if v.kind = 2 then [] else unk D l by
  cases v with
  | mk k nm n xs =>
   have hv3 : ¬ k = 3 := hv3
   rw [splitOne, if_neg hv3]
   rfl]
 refine W.cond rfl (fun hb => absurd (of_decide_eq_true hb) (by omega)) (fun _ => ?_)
 apply W.sk
 apply W.seq
 apply W.sr
 apply ofa; rfl; rfl; rfl
 apply old; rfl; rfl; exact .head _; rfl; rfl
 apply obn; rfl; rfl; rfl; apply Bin.eql
 apply OL.nx
 by_cases hv2 : v.kind = 2
 ·rw [if_pos hv2]
  refine W.cond rfl (fun _ => ?_) (fun hb => absurd (of_decide_eq_false hb) (by omega))
  apply W.sr
  apply oas; rfl; rfl
  apply OL.nx
  refine W.rt ?_
  ((with_reducible apply At.fin1); rfl; rfl; intro w' hw')
  exact ⟨none, 0, [], rfl, rfl, by simp, fun hl => (by cases hl), fun r hr => (by cases hr), by (exact hw'.fr)⟩
 rw [if_neg hv2]
 refine W.cond rfl (fun hb => absurd (of_decide_eq_true hb) (by omega)) (fun _ => ?_)
 apply W.sk
 apply W.sr
 apply oas; rfl; rfl
 apply OL.nsr
 apply oas; rfl; rfl
 apply OL.nx
 apply W.seq
 apply W.sr
 apply omv; rfl; rfl
 apply oop; rfl; apply Pev.len_slice; rfl; exact yes; rfl
 apply omv; rfl; rfl
 apply OL.nx
 apply W.block
 refine W.loop (G := Nat × GT × GI) (fun g => g.1 ≤ cs.length ∧ (∀ x ∈ l.take g.1, x.kind ≠ 3) ∧ g.2.1.ps.map Prod.fst = g.2.2.ps.map Pt.mkI ∧ g.2.2.ps = wordsOf (l.take g.1) ∧ ∀ x ∈ g.2.1.ps, ∃ n : Int, I64 n ∧ x = (Pt.mkI n, ((none, 0) : PY))) (fun g => cs.length - g.1)
  (fun g => [(0, true, .slice qd ds.length cd), (13, true, .slice g.2.1.q g.2.1.ps.length g.2.1.c), (14, true, .slice g.2.2.q g.2.2.ps.length g.2.2.c), (66, true, .slice q cs.length cap), (67, true, .int .i64 (cs.length : Int)), (68, true, .int .i64 (g.1 : Int))])
  (fun g => Cls [row w.heap.size g.2.2.O g.2.2.q g.2.2.ps.length g.2.2.c 3 1 (intV g.2.2.ps), row w.heap.size g.2.1.O g.2.1.q g.2.1.ps.length g.2.1.c 50 4 (cat tyR.c g.2.1.ps)] [w]) (0, ⟨fun _ => False, none, 0, []⟩, ⟨fun _ => False, none, 0, []⟩) ⟨Nat.zero_le _, fun x hx => (by cases hx), rfl, rfl, fun x hx => (by cases hx)⟩ (by exact Sub.au) (fun w' hw' => ((hw'.thin (by exact Thin.au)).row_nil w.heap.size 50 4).row_nil w.heap.size 3 1) ?_
 rintro ⟨i, ⟨Oo, qo, co, os⟩, ⟨Ow, qw, cw, ws⟩⟩ ⟨hi, hno, hos, hws, hoo⟩
 simp only at hi hno hos hws hoo ⊢
 have hwl := words_len l i (by omega)
 rw [← hws] at hwl
 have hol : os.length = ws.length := by
  have := congrArg List.length hos
  rw [List.length_map, List.length_map] at this
  exact this
 have hHr : ∀ k, k < w.heap.size → NotOwned [row w.heap.size Ow qw ws.length cw 3 1 (intV ws), row w.heap.size Oo qo os.length co 50 4 (cat tyR.c os)] k := fun k hk => NotOwned.row (by omega) (NotOwned.row (by omega) .nil)
 apply W.sr
 apply obn; rfl; rfl; rfl; apply Bin.lss
 apply OL.nx
 apply W.seq
 (refine W.cnd (fun hlt => ?_) (fun hlt => ?_)) <;> (try (exfalso; first | omega | exact hlt trivial | contradiction))
 ·obtain ⟨a, a2, p, y, yc, rfl, hab, hp, hpl, hcell, hab2, hcell2, hpok⟩ := hhead i (by omega)
  have hstep := words_step hp
  rw [← hws] at hstep
  obtain ⟨hgp, hfp⟩ := hl p hpl
  obtain ⟨_, _, _, _, hpk64, hpv64⟩ := pat_kids hpok
  have htk : ∀ x ∈ l.take (i + 1), p.kind ≠ 3 → x.kind ≠ 3 := fun x hx hk => by
   rw [List.take_add_one, hp, Option.toList_some] at hx
   rcases List.mem_append.1 hx with hx | hx
   ·exact hno x hx
   ·rw [List.mem_singleton] at hx
    rwa [hx]
  apply W.sk
  apply W.sb
  apply W.sr
  apply oop; rfl; apply Pev.idx; rfl; exact yes; rfl; exact yes; rfl; rfl; intro hcond; omega
  apply oop; rfl; apply Pev.load_kept; rfl; exact yes; exact .head _; rfl; intro hcond; assumption; intro hcond; (rw [add_block]; assumption); intro hcond; exact NotOwned.au
  apply oas; rfl; rfl
  apply OL.nsr
  apply omv; rfl; rfl
  apply oop; rfl; apply Pev.idx; rfl; exact yes; rfl; exact yes; rfl; rfl; intro hcond; (simp only [Bool.and_eq_true, Bool.or_eq_true, Bool.not_eq_true', decide_eq_true_eq, decide_eq_false_iff_not] at *; omega)
  apply oop; rfl; apply Pev.fldA; rfl; exact yes; rfl
  apply oop; rfl; apply Pev.load_kept; rfl; exact yes; exact .head _; rfl; intro hcond; apply CellsAt.at_ (by assumption) rfl; intro hcond; assumption; intro hcond; exact NotOwned.au
  apply OL.nx
  apply W.block
  apply W.sr
  apply obn; rfl; rfl; rfl; apply Bin.eql
  apply oas; rfl; rfl
  apply OL.nx
  by_cases hp3 : p.kind = 3
  ·obtain ⟨d, c, hc, hargl, _⟩ := hgp.1.cons hp3
   have hu := unk_con hno hp hp3 hc
   rw [hu]
   refine W.cond rfl (fun _ => ?_) (fun hb => absurd (of_decide_eq_false hb) (by omega))
   apply W.sr
   apply omv; rfl; rfl
   apply omv; rfl; rfl
   apply oop; rfl; apply Pev.idx; rfl; exact yes; rfl; exact yes; rfl; rfl; intro hcond; (simp only [Bool.and_eq_true, Bool.or_eq_true, Bool.not_eq_true', decide_eq_true_eq, decide_eq_false_iff_not] at *; omega)
   apply oop; rfl; apply Pev.fldA; rfl; exact yes; rfl
   apply oop; rfl; apply Pev.load_kept; rfl; exact yes; exact .head _; rfl; intro hcond; apply CellsAt.at_ (by assumption) rfl; intro hcond; assumption; intro hcond; exact NotOwned.au
   refine OL.callE (α := Int) (fun z => .tuple #[.int .i64 (d : Int), .int .i64 z]) (fun z => True) (fun z => Cls [row w.heap.size Ow qw ws.length cw 3 1 (intV ws), row w.heap.size Oo qo os.length co 50 4 (cat tyR.c os)] [w]) rfl rfl (by exact Args.au) (fun w2 hw2 => ?_) ?_
   ·exact (ConOf_calls qd cd ds p.name d c w2 hdl (hd.at hw2 (.head _) hHr) (by rw [hD]; exact hc)).mono fun e w3 ⟨z, h1, h2⟩ => ⟨z, h1, trivial, hw2.ext h2⟩
   intro ci _
   have hdd : d < ds.length := by
    have hm := (conAt_mem hc).1
    unfold consOf at hm
    cases hx : D[d]? with
    | none => rw [hx] at hm; cases hm
    | some x =>
     have := (List.getElem?_eq_some_iff.1 hx).1
     rw [← hD, List.length_map] at this
     exact this
   obtain ⟨ad, ud, hqd, hadb, hud, hcelld, ⟨dcs, hdcs, hdcsa⟩, hdcl⟩ := hd.get hdd
   have hadb : ad.block < w.heap.size := hadb
   have hcelld : CellsAt w (ad.add (d * 3)) [.string ud.2.name, .int .i64 ud.2.params, .slice ud.2.q ud.1.cons.length ud.2.cap] := hcelld
   have hcof : consOf D d = ud.1.cons := by
    unfold consOf
    rw [← hD, List.getElem?_map, hud]
    rfl
   have hdcsl : dcs.length = ud.1.cons.length := by rw [← hdcs, List.length_map]
   have h256 := h256 ud (List.mem_of_getElem? hud)
   rw [hcof, ← hdcs]
   rw [← hdcsl] at hcelld h256
   rw [hqd]
   apply omv; rfl; rfl
   apply oex; rfl; rfl; rfl
   apply oex; rfl; rfl; rfl
   apply oas; rfl; rfl
   apply oas; rfl; rfl
   apply OL.nsr
   apply oas; rfl; rfl
   apply OL.nx
   apply W.seq
   apply W.sr
   apply omv; rfl; rfl
   apply omv; rfl; rfl
   apply oop; rfl; apply Pev.idx; rfl; exact yes; rfl; exact yes; rfl; rfl; intro hcond; omega
   apply oop; rfl; apply Pev.fldA; rfl; exact yes; rfl
   apply oop; rfl; apply Pev.load_kept; rfl; exact yes; exact .head _; rfl; intro hcond; apply CellsAt.at_ (by assumption) rfl; intro hcond; (simp only [add_block]; assumption); intro hcond; exact NotOwned.au
   apply oop; rfl; apply Pev.len_slice; rfl; exact yes; rfl
   apply omv; rfl; rfl
   apply OL.nx
   apply W.block
   refine W.loop (G := Nat × GT × (Nat → Prop)) (fun g => g.1 ≤ dcs.length ∧ g.2.1.ps.map Prod.fst = ((dcs.take g.1).map Prod.fst).map Pt.mkC ∧ g.2.1.ps.length ≤ g.1) (fun g => dcs.length - g.1)
    (fun g => [(13, true, .slice g.2.1.q g.2.1.ps.length g.2.1.c), (91, true, .slice ud.2.q dcs.length ud.2.cap), (92, true, .int .i64 (dcs.length : Int)), (93, true, .int .i64 (g.1 : Int))])
    (fun g => Cls [row w.heap.size g.2.1.O g.2.1.q g.2.1.ps.length g.2.1.c 50 4 (cat tyR.c g.2.1.ps), pool tyR w.heap.size g.2.2 g.2.1.ps] [w]) (0, ⟨fun _ => False, none, 0, []⟩, fun _ => False) ⟨Nat.zero_le _, rfl, Nat.le_refl _⟩ (by exact Sub.au) (fun w' hw' => ((hw'.thin (.row ⟨Nat.le_refl _, trivial⟩ (.row ⟨Nat.le_refl _, trivial⟩ Thin.same))).pool_nil tyR w.heap.size).row_nil w.heap.size 50 4) ?_
   rintro ⟨j, ⟨Oo2, qo2, co2, ls⟩, O2⟩ ⟨hj, hls, hll⟩
   simp only at hj hls hll ⊢
   apply W.sr
   apply obn; rfl; rfl; rfl; apply Bin.lss
   apply OL.nx
   apply W.seq
   (refine W.cnd (fun hltj => ?_) (fun hltj => ?_)) <;> (try (exfalso; first | omega | exact hltj trivial | contradiction))
   ·obtain ⟨ac, uc, hqc, habc, huc, hcellc, hokc⟩ := hdcsa.get (show j < dcs.length by omega)
    have habc : ac.block < w.heap.size := habc
    have hcellc : CellsAt w (ac.add (j * 2)) [.string uc.1.name, .slice uc.2.1 uc.1.many uc.2.2] := hcellc
    have hokc : uc.1.many * 56 ≤ 140737488355328 := hokc
    rw [hqc]
    apply W.sk
    apply W.sb
    apply W.sr
    apply oop; rfl; apply Pev.idx; rfl; exact yes; rfl; exact yes; rfl; rfl; intro hcond; omega
    apply oop; rfl; apply Pev.load_keptA; rfl; exact yes; exact .head _; rfl; intro hcond; assumption; rfl; intro hcond; (rw [add_block]; assumption); intro hcond; exact NotOwned.au
    apply OL.alloc; rfl; rfl; exact CellsL.agg; (intro bk hbk; simp only [AllLe, and_true] at hbk)
    apply OL.storeB; rfl; rfl; exact CellsL.agg; rfl; rfl; rfl; exact Swap.au; exact Put.au
    apply OL.nx
    apply W.regz; apply ZSplit.pure rfl; apply ZSplit.pure rfl; apply ZSplit.pure rfl; apply ZSplit.pure rfl; apply ZSplit.pure rfl; apply ZSplit.pure rfl; apply ZSplit.tail; apply ZSplit.tail; apply ZSplit.tail; apply ZSplit.tail; apply ZSplit.tail; exact ZSplit.nil; kernel_rfl; decide +kernel; exact fun w hw => hw.drew
    apply ZL.op rfl; exact Guard.none; rfl; rfl; apply Pev.move; rfl; exact yes
    apply ZL.op rfl; exact Guard.none; rfl; rfl; apply Pev.fld; rfl; exact yes; rfl
    apply ZL.ld rfl; exact Guard.none; rfl; rfl; apply Pev.load_blk; rfl; exact yes; exact .head _; rfl; rfl
    apply ZL.op rfl; exact Guard.none; rfl; rfl; apply Pev.fld; rfl; exact yes; rfl
    apply ZL.ld rfl; exact Guard.none; rfl; rfl; apply Pev.load_blk; rfl; exact yes; exact .head _; rfl; rfl
    apply ZL.op rfl; exact Guard.none; rfl; rfl; apply Pev.len_slice; rfl; exact yes; rfl
    apply ZL.nil
    apply TL.one rfl
    refine OL.makeSliceK (f := tyR.c) (x0 := (anyT, (none, 0))) (m := uc.1.many) rfl rfl rfl rfl rfl rfl rfl rfl (by omega) (fun b3 hb3 => ?_)
    simp only [AllLe, and_true] at hb3
    apply OL.nil
    refine At.tk (fun w hw => hw.thin ?_) ?_; exact Thin.au
    apply TL.one rfl
    apply oop; rfl; apply Pev.build; rfl; exact CellsL.agg; rfl; exact Fill.au; rfl
    apply OL.nil
    with_reducible apply At.tn; decide +kernel
    apply TL.one rfl
    apply OL.buildSlice; rfl; rfl; rfl; exact Elems.au; rfl; rfl; (intro bk hbk; simp only [AllLe, and_true] at hbk)
    apply OL.nil
    with_reducible apply At.tn; decide +kernel
    apply TL.one rfl
    apply OL.append; rfl; rfl; rfl; rfl; exact Hole.au; exact .head _; exact Take.au; rfl; rfl; exact ⟨_, .head _, Nat.le_refl _⟩; omega; intro O1 g1 cap1
    apply OL.nil
    with_reducible apply At.tn; decide +kernel
    apply TL.one rfl
    apply oas; rfl; rfl
    apply OL.nil
    with_reducible apply At.tn; decide +kernel
    apply TL.nil
    with_reducible apply At.np
    with_reducible apply At.in_normal
    with_reducible apply At.next
    apply W.reg
    apply obn; rfl; rfl; rfl; apply Bin.add_in; omega
    apply omv; rfl; rfl
    apply OL.nil
    obtain ⟨un, hun⟩ : ∃ un : Ty × PY, un = (Pt.mkC uc.1, (some ⟨b3, 0, none⟩, uc.1.many)) := ⟨_, rfl⟩
    have e1 : ls.length + 1 = (ls ++ [un]).length := by simp
    have e2 : cat tyR.c ls ++ [Value.int .i64 3, .string uc.1.name, .int .i64 0, .slice (some ⟨b3, 0, none⟩) uc.1.many uc.1.many] = cat tyR.c (ls ++ [un]) := by
     rw [cat_append, hun]
     congr 1
     show _ = [Value.int .i64 3, .string uc.1.name, .int .i64 0, .slice (some ⟨b3, 0, none⟩) (anys uc.1.many).length uc.1.many]
     rw [anys_len]
    rw [e1, e2]
    refine At.again (j + 1, ⟨O1, some ⟨g1, 0, none⟩, cap1, ls ++ [un]⟩, fun x => O2 x ∨ (blk b3 50 (cat tyR.c (List.replicate uc.1.many (anyT, ((none, 0) : PY))))).own x) ⟨by simp only; omega, ?_, by simp only [← e1]; omega⟩ (by simp only; omega) (by exact Sub.au) (fun w' hw' => ?_)
    ·simp only [List.map_append, hls, hun, List.take_add_one, huc, Option.toList_some, List.map_cons, List.map_nil]
    ·have h3 := (hw'.thin (H' := [blk b3 50 (cat tyR.c (List.replicate uc.1.many (anyT, ((none, 0) : PY)))), row w.heap.size O1 (some ⟨g1, 0, none⟩) (ls ++ [un]).length cap1 50 4 (cat tyR.c (ls ++ [un])), pool tyR w.heap.size O2 ls]) (.blk (by simp only [AllLe, and_true]; omega) (.keep (.blk (by simp only [AllLe, and_true]; omega) Thin.same)))).perm (List.Perm.cons _ (List.Perm.swap _ _ _))
     have hb := h3.item (i := blk b3 50 (cat tyR.c (List.replicate uc.1.many (anyT, ((none, 0) : PY))))) (.head _)
     have h4 := h3.pool_join (x := Pt.mkC uc.1) (y := ((some ⟨b3, 0, none⟩, uc.1.many) : PY)) (fun x hx => by
      obtain rfl : x = b3 := hx
      exact hb3) (by
      have harr : Arr tyR w' (fun k => w.heap.size ≤ k ∧ (O2 k ∨ (blk b3 50 (cat tyR.c (List.replicate uc.1.many (anyT, ((none, 0) : PY))))).own k)) (List.replicate uc.1.many (anyT, ((none, 0) : PY))) (some ⟨b3, 0, none⟩) := ⟨fun _ => ⟨⟨b3, 0, none⟩, rfl, ⟨hb3, .inr rfl⟩, fun m v hm => by
       rw [add_mid, blk_cell hb, Nat.zero_add]
       exact hm⟩, anyl_ok w' _ uc.1.many⟩
      have := TyO.of_parts (k := 3) (v := 0) (nm := uc.1.name) (cap := uc.1.many) (by simp [I64]) (by simp [I64]) (by rw [List.length_replicate]; omega) (by rw [List.length_replicate]; exact Nat.le_refl _) harr
      rw [anyl_map] at this
      exact this)
     rw [← hun] at h4
     exact h4.flip
   ·obtain rfl : j = dcs.length := by omega
    rw [List.take_length] at hls
    refine W.xt ?_
    with_reducible apply At.next
    apply W.sr
    apply omv; rfl; rfl
    apply oas; rfl; rfl
    apply OL.nx
    refine W.rt ?_
    ((with_reducible apply At.fin1); rfl; rfl; intro w' hw')
    have hHe : ∀ k, k < w.heap.size → NotOwned [row w.heap.size Oo2 qo2 ls.length co2 50 4 (cat tyR.c ls), pool tyR w.heap.size O2 ls] k := fun k hk => NotOwned.row (by omega) (NotOwned.pool (by omega) .nil)
    refine ⟨qo2, co2, ls, rfl, hls, by omega, FrA.of_row hw' (.head _), fun p hp => ?_, hw'.toExt (.head _) hHe⟩
    exact TyO.mono (fun k hk => .inr ⟨hk.1, hw'.lt (pool tyR w.heap.size O2 ls) (.tail _ (.head _)) k hk⟩) (hw'.item (i := pool tyR w.heap.size O2 ls) (.tail _ (.head _)) p hp)
  ·refine W.cond rfl (fun hb => absurd (of_decide_eq_true hb) (by omega)) (fun _ => ?_)
   have htk2 : ∀ x ∈ l.take (i + 1), x.kind ≠ 3 := fun x hx => htk x hx hp3
   apply W.sr
   apply obn; rfl; rfl; rfl; apply Bin.eql
   apply oas; rfl; rfl
   apply OL.nx
   by_cases hp2 : p.kind = 2
   ·rw [if_pos hp2] at hstep
    refine W.cond rfl (fun _ => ?_) (fun hb => absurd (of_decide_eq_false hb) (by omega))
    apply W.sr
    apply omv; rfl; rfl
    apply omv; rfl; rfl
    apply oop; rfl; apply Pev.idx; rfl; exact yes; rfl; exact yes; rfl; rfl; intro hcond; (simp only [Bool.and_eq_true, Bool.or_eq_true, Bool.not_eq_true', decide_eq_true_eq, decide_eq_false_iff_not] at *; omega)
    apply oop; rfl; apply Pev.fldA; rfl; exact yes; rfl
    apply oop; rfl; apply Pev.load_kept; rfl; exact yes; exact .head _; rfl; intro hcond; apply CellsAt.at_ (by assumption) rfl; intro hcond; assumption; intro hcond; exact NotOwned.au
    have hints : ∀ w2, Cls [row w.heap.size Ow qw ws.length cw 3 1 (intV ws), row w.heap.size Oo qo os.length co 50 4 (cat tyR.c os)] [w] w2 → IntsO w2 (low w2) ws qw := fun w2 hw2 hl => by
     obtain ⟨a9, g1, g2, g3⟩ := SlAt.of_row (hw2.item (.head _)) (by rw [intV_length]; exact hl)
     exact ⟨a9, g1, g2, g3⟩
    (((first | (with_reducible apply OL.op) | (with_reducible apply QL.op)); (exact Guard.au); rfl; rfl); (exact Pev.call (v := .bool (decide (p.var ∈ ws))) rfl (by exact Args.au) (fun _ w2 hw2 => (HasInt_calls qw cw ws p.var w2 (by omega) (hints w2 hw2)).mono (fun e w3 h => ⟨h.1, hw2.ext h.2⟩))))
    apply oop; rfl; apply Pev.not; rfl; exact yes
    apply OL.nx
    by_cases hin : p.var ∈ ws
    ·rw [decide_eq_true hin]
     unfold addW at hstep
     rw [if_pos hin] at hstep
     refine W.cond rfl (fun hb => by simp at hb) (fun _ => ?_)
     apply W.skip
     with_reducible apply At.in_normal
     with_reducible apply At.in_normal
     with_reducible apply At.next
     apply W.reg
     apply obn; rfl; rfl; rfl; apply Bin.add_in; omega
     apply omv; rfl; rfl
     apply OL.nil
     exact At.again (i + 1, ⟨Oo, qo, co, os⟩, ⟨Ow, qw, cw, ws⟩) ⟨by simp only; omega, htk2, hos, hstep.symm, hoo⟩ (by simp only; omega) (by exact Sub.au) (fun w' hw' => hw')
    ·rw [decide_eq_false hin]
     unfold addW at hstep
     rw [if_neg hin] at hstep
     refine W.cond rfl (fun _ => ?_) (fun hb => by simp at hb)
     apply W.sr
     apply omv; rfl; rfl
     apply omv; rfl; rfl
     apply oop; rfl; apply Pev.idx; rfl; exact yes; rfl; exact yes; rfl; rfl; intro hcond; (simp only [Bool.and_eq_true, Bool.or_eq_true, Bool.not_eq_true', decide_eq_true_eq, decide_eq_false_iff_not] at *; omega)
     apply oop; rfl; apply Pev.fldA; rfl; exact yes; rfl
     apply oop; rfl; apply Pev.load_kept; rfl; exact yes; exact .head _; rfl; intro hcond; apply CellsAt.at_ (by assumption) rfl; intro hcond; assumption; intro hcond; exact NotOwned.au
     apply OL.buildSlice; rfl; rfl; rfl; exact Elems.au; rfl; rfl; (intro bk hbk; simp only [AllLe, and_true] at hbk)
     apply OL.append; rfl; rfl; rfl; rfl; exact Hole.au; exact .head _; exact Take.au; rfl; rfl; exact ⟨_, .head _, Nat.le_refl _⟩; omega; intro O1 g1 cap1
     apply oas; rfl; rfl
     apply OL.nx
     apply W.reg
     apply omv; rfl; rfl
     apply omv; rfl; rfl
     apply oop; rfl; apply Pev.idx; rfl; exact yes; rfl; exact yes; rfl; rfl; intro hcond; (simp only [Bool.and_eq_true, Bool.or_eq_true, Bool.not_eq_true', decide_eq_true_eq, decide_eq_false_iff_not] at *; omega)
     apply oop; rfl; apply Pev.fldA; rfl; exact yes; rfl
     apply oop; rfl; apply Pev.load_kept; rfl; exact yes; exact .head _; rfl; intro hcond; apply CellsAt.at_ (by assumption) rfl; intro hcond; assumption; intro hcond; exact NotOwned.au
     apply oop; rfl; apply Pev.build; rfl; exact CellsL.agg; rfl; exact Fill.au; rfl
     apply OL.buildSlice; rfl; rfl; rfl; exact Elems.au; rfl; rfl; (intro bk hbk; simp only [AllLe, and_true] at hbk)
     apply OL.append; rfl; rfl; rfl; rfl; exact Hole.au; exact .head _; exact Take.au; rfl; rfl; exact ⟨_, .head _, Nat.le_refl _⟩; omega; intro O1 g1 cap1
     apply oas; rfl; rfl
     apply OL.nil
     with_reducible apply At.in_normal
     with_reducible apply At.in_normal
     with_reducible apply At.next
     apply W.reg
     apply obn; rfl; rfl; rfl; apply Bin.add_in; omega
     apply omv; rfl; rfl
     apply OL.nil
     rename_i bw hbw Ow1 gw1 cw1
     obtain ⟨uo, huo⟩ : ∃ uo : Ty × PY, uo = (Pt.mkI p.var, (none, 0)) := ⟨_, rfl⟩
     have e1 : os.length + 1 = (os ++ [uo]).length := by simp
     have e2 : cat tyR.c os ++ [Value.int .i64 2, .string ⟨#[]⟩, .int .i64 p.var, .slice none 0 0] = cat tyR.c (os ++ [uo]) := by rw [cat_append, huo]; rfl
     have e3 : ws.length + 1 = (ws ++ [p.var]).length := by simp
     have e4 : intV ws ++ [Value.int .i64 p.var] = intV (ws ++ [p.var]) := by rw [intV_append]; rfl
     rw [e1, e2, e3, e4]
     refine At.again (i + 1, ⟨O1, some ⟨g1, 0, none⟩, cap1, os ++ [uo]⟩, ⟨Ow1, some ⟨gw1, 0, none⟩, cw1, ws ++ [p.var]⟩) ⟨by simp only; omega, htk2, ?_, hstep.symm, fun x hx => (List.mem_append.1 hx).elim (hoo x) (fun hx => ?_)⟩ (by simp only; omega) (by exact Sub.au) (fun w' hw' => hw'.thin (by exact Thin.au))
     ·simp only [List.map_append, hos, huo, List.map_cons, List.map_nil]
     ·rw [List.mem_singleton] at hx
      exact ⟨p.var, hpv64, by rw [hx, huo]⟩
   ·rw [if_neg hp2] at hstep
    refine W.cond rfl (fun hb => absurd (of_decide_eq_true hb) (by omega)) (fun _ => ?_)
    apply W.skip
    with_reducible apply At.in_normal
    with_reducible apply At.in_normal
    with_reducible apply At.next
    apply W.reg
    apply obn; rfl; rfl; rfl; apply Bin.add_in; omega
    apply omv; rfl; rfl
    apply OL.nil
    exact At.again (i + 1, ⟨Oo, qo, co, os⟩, ⟨Ow, qw, cw, ws⟩) ⟨by simp only; omega, htk2, hos, hstep.symm, hoo⟩ (by simp only; omega) (by exact Sub.au) (fun w' hw' => hw')
 ·obtain rfl : i = cs.length := by omega
  rw [← hll, List.take_length] at hno hws
  rw [unk_int hno, ← hws]
  have hints : ∀ w2, Cls [row w.heap.size Ow qw ws.length cw 3 1 (intV ws), row w.heap.size Oo qo os.length co 50 4 (cat tyR.c os)] [w] w2 → IntsO w2 (low w2) ws qw := fun w2 hw2 hl => by
   obtain ⟨a9, g1, g2, g3⟩ := SlAt.of_row (hw2.item (.head _)) (by rw [intV_length]; exact hl)
   exact ⟨a9, g1, g2, g3⟩
  refine W.xt ?_
  with_reducible apply At.next
  apply W.seq
  apply W.sr
  apply omv; rfl; rfl
  apply oop; rfl; apply Pev.len_slice; rfl; exact yes; rfl
  apply obn; rfl; rfl; rfl; apply Bin.gtr
  apply OL.nx
  by_cases hw0 : ws.length = 0
  ·have hwn : ws = [] := List.length_eq_zero_iff.1 hw0
   have hun : unkI ws = ws.map Pt.mkI := by
    unfold unkI
    rw [if_pos hwn, List.append_nil]
   rw [hun]
   refine W.cond rfl (fun hb => absurd (of_decide_eq_true hb) (by omega)) (fun _ => ?_)
   apply W.sk
   apply W.sr
   apply omv; rfl; rfl
   apply oas; rfl; rfl
   apply OL.nx
   apply W.ret
   ((with_reducible apply At.fin1); rfl; rfl; intro w' hw')
   refine ⟨qo, co, os, rfl, hos, by omega, FrA.of_row hw' (.tail _ (.head _)), fun x hx => ?_, hw'.toExt (.head _) hHr⟩
   obtain ⟨n, hn, rfl⟩ := hoo x hx
   exact mkI_ok w' _ hn
  have hwn : ws ≠ [] := fun e => hw0 (by rw [e]; rfl)
  have hun : unkI ws = ws.map Pt.mkI ++ [Pt.mkI (least ws : Int)] := by
   unfold unkI
   rw [if_neg hwn]
  rw [hun]
  have htop : top ws ≤ 1073741825 := top_le _ fun x hx => by
   rw [hws] at hx
   obtain ⟨p, hp, hk, rfl⟩ := wordsOf_mem.1 hx
   cases (hl p hp).1.1 with
   | fr h => rw [free_no (.inl hk)] at h; cases h
   | int _ h => exact h
   | con h _ _ _ => omega
  refine W.cond rfl (fun _ => ?_) (fun hb => absurd (of_decide_eq_false hb) (by omega))
  apply W.sr
  apply oas; rfl; rfl
  apply OL.nx
  apply W.sb
  refine W.loop (G := Nat) (fun n => n ≤ top ws ∧ goN ws (top ws - n) n = least ws) (fun n => top ws - n)
   (fun n => [(13, true, .slice qo os.length co), (14, true, .slice qw ws.length cw), (21, true, .int .i64 (n : Int))])
   (fun n => Cls [row w.heap.size Ow qw ws.length cw 3 1 (intV ws), row w.heap.size Oo qo os.length co 50 4 (cat tyR.c os)] [w]) 0 ⟨Nat.zero_le _, rfl⟩ (by exact Sub.au) (fun w' hw' => hw') ?_
  rintro n ⟨hn1, hn2⟩
  simp only at hn1 hn2 ⊢
  apply W.seq
  apply W.sr
  apply omv; rfl; rfl
  apply omv; rfl; rfl
  (((first | (with_reducible apply OL.op) | (with_reducible apply QL.op)); (exact Guard.au); rfl; rfl); (exact Pev.call (v := .bool (decide ((n : Int) ∈ ws))) rfl (by exact Args.au) (fun _ w2 hw2 => (HasInt_calls qw cw ws n w2 (by omega) (hints w2 hw2)).mono (fun e w3 h => ⟨h.1, hw2.ext h.2⟩))))
  apply OL.nx
  by_cases hin : (n : Int) ∈ ws
  ·rw [decide_eq_true hin]
   have hlt : n < top ws := Nat.lt_of_not_le (fun hle => top_no ws n hle hin)
   have hstep : goN ws (top ws - (n + 1)) (n + 1) = least ws := by
    rw [← hn2, show top ws - n = (top ws - (n + 1)) + 1 by omega, goN, if_pos hin]
   refine W.cond rfl (fun _ => ?_) (fun hb => by cases hb)
   apply W.sk
   apply W.block
   apply W.reg
   apply omv; rfl; rfl
   apply obn; rfl; rfl; rfl; apply Bin.add_in; omega
   apply oas; rfl; rfl
   apply OL.nil
   with_reducible apply At.in_normal
   exact At.again (n + 1) ⟨by omega, hstep⟩ (by omega) (by exact Sub.au) (fun w' hw' => hw')
  ·rw [decide_eq_false hin]
   have hfin : least ws = n := by
    rw [← hn2]
    cases top ws - n with
    | zero => rfl
    | succ f => rw [goN, if_neg hin]
   rw [hfin]
   refine W.cond rfl (fun hb => by cases hb) (fun _ => ?_)
   refine W.xt ?_
   with_reducible apply At.next
   apply W.reg
   apply omv; rfl; rfl
   apply omv; rfl; rfl
   apply oop; rfl; apply Pev.build; rfl; exact CellsL.agg; rfl; exact Fill.au; rfl
   apply OL.buildSlice; rfl; rfl; rfl; exact Elems.au; rfl; rfl; (intro bk hbk; simp only [AllLe, and_true] at hbk)
   apply OL.append; rfl; rfl; rfl; rfl; exact Hole.au; exact .head _; exact Take.au; rfl; rfl; exact ⟨_, .head _, Nat.le_refl _⟩; omega; intro O1 g1 cap1
   apply oas; rfl; rfl
   apply OL.nsr
   apply omv; rfl; rfl
   apply oas; rfl; rfl
   apply OL.nx
   apply W.ret
   obtain ⟨uo, huo⟩ : ∃ uo : Ty × PY, uo = (Pt.mkI (n : Int), (none, 0)) := ⟨_, rfl⟩
   have e1 : os.length + 1 = (os ++ [uo]).length := by simp
   have e2 : cat tyR.c os ++ [Value.int .i64 2, .string ⟨#[]⟩, .int .i64 (n : Int), .slice none 0 0] = cat tyR.c (os ++ [uo]) := by rw [cat_append, huo]; rfl
   rw [e1, e2]
   ((with_reducible apply At.fin1); rfl; rfl; intro w' hw')
   refine ⟨_, _, os ++ [uo], rfl, by rw [List.map_append, hos, huo]; rfl, by rw [← e1]; omega, FrA.of_row hw' (.tail _ (.tail _ (.head _))), fun x hx => (List.mem_append.1 hx).elim (fun hx => ?_) (fun hx => ?_), hw'.toExt (.head _) (fun k hk => NotOwned.blk (by omega) (NotOwned.row (by omega) (NotOwned.row (by omega) .nil)))⟩
   ·obtain ⟨n, hn, rfl⟩ := hoo x hx
    exact mkI_ok w' _ hn
   ·rw [List.mem_singleton] at hx
    rw [hx, huo]
    exact mkI_ok w' _ (by simp only [I64]; omega)
end Go.Proofs.Ytleggdmhihcafaa.pt

/- The walk of the reference's Split, of any values. Conditions: none. -/
namespace Go.Proofs.Ytleggdmhihcafaa.pt
open Go.RowKit Go.Eng Go.Pt
theorem one_all (qd : Option Addr) (cd : Nat) (ds : List (Da × DY)) (hdl : ds.length ≤ 9223372036854775807) (h256 : ∀ x ∈ ds, x.1.cons.length ≤ 256) : ∀ (n : Nat) (v : Ty), v.sz < n → OneC qd cd ds v := by
 intro n
 induction n with
 | zero => intro v hv; omega
 | succ n ih =>
  intro v hv
  exact splitOne_of qd cd ds hdl h256 v (fun vz hvz => Split_of qd cd ds vz (fun x hx => ih x.1 (by
   obtain ⟨j, hj⟩ := List.getElem?_of_mem (List.mem_map_of_mem (f := Prod.fst) hx)
   rw [hvz] at hj
   have h1 := Ty.sz_get hj
   have h2 := sz_args v
   omega)))
theorem Split_calls (qd : Option Addr) (cd : Nat) (ds : List (Da × DY)) (hdl : ds.length ≤ 9223372036854775807) (h256 : ∀ x ∈ ds, x.1.cons.length ≤ 256) (vs : List (Ty × PY)) : SplC qd cd ds vs :=
 Split_of qd cd ds vs (fun v _ => one_all qd cd ds hdl h256 (v.1.sz + 1) v.1 (Nat.lt_succ_self _))
end Go.Proofs.Ytleggdmhihcafaa.pt

/- The walk of the reference's Cover. Conditions: none. -/
namespace Go.Pt
open Go.Eng Go.RowKit
def bls (l : List Bool) : List Value := l.map fun b => .bool b
theorem bls_length (l : List Bool) : (bls l).length = l.length := by simp [bls]
theorem bls_get {l : List Bool} {i : Nat} {b : Bool} (h : l[i]? = some b) : (bls l)[i]? = some (.bool b) := by simp [bls, h]
theorem bls_set (l : List Bool) (i : Nat) (b : Bool) : (bls l).set i (.bool b) = bls (l.set i b) := by simp [bls]
theorem bls_zero (n : Nat) : List.replicate n (Value.bool false) = bls (List.replicate n false) := by simp [bls]
def BoolsO (w : World) (O : Nat → Prop) (l : List Bool) (q : Option Addr) : Prop := 0 < l.length → ∃ a, q = some a ∧ O a.block ∧ CellsAt w a (bls l)
theorem BoolsO.get {w : World} {O : Nat → Prop} {l : List Bool} {q : Option Addr} (h : BoolsO w O l q) {i : Nat} (hi : i < l.length) : ∃ a u, q = some a ∧ O a.block ∧ l[i]? = some u ∧ w.cell? (a.add (i * 1)) = some (.bool u) := by
 obtain ⟨a, h1, h2, h3⟩ := h (by omega)
 have hu : l[i]? = some l[i] := List.getElem?_eq_getElem hi
 exact ⟨a, l[i], h1, h2, hu, by rw [Nat.mul_one]; exact h3 i _ (bls_get hu)⟩
theorem BoolsO.stab {w w' : World} {O : Nat → Prop} {l : List Bool} {q : Option Addr} (hk : ∀ k, O k → w'.heap[k]? = w.heap[k]?) (h : BoolsO w O l q) : BoolsO w' O l q := fun hl => by
 obtain ⟨a, h1, h2, h3⟩ := h hl
 exact ⟨a, h1, h2, cells_stab (hk _ h2) h3⟩
theorem BoolsO.mono {w : World} {O O' : Nat → Prop} {l : List Bool} {q : Option Addr} (hk : ∀ k, O k → O' k) (h : BoolsO w O l q) : BoolsO w O' l q := fun hl => by
 obtain ⟨a, h1, h2, h3⟩ := h hl
 exact ⟨a, h1, hk _ h2, h3⟩
def poolQ {α μ : Type} (R : Rel α μ) (B : Nat) (O : Nat → Prop) (l : List (α × μ)) (q : Option Addr) (vs : List Value) : Eng.Item :=
 ⟨fun k => B ≤ k ∧ O k, fun w => (∀ p ∈ l, R.ok w (fun k => B ≤ k ∧ O k) p.1 p.2) ∧ (0 < vs.length → ∃ a, q = some a ∧ (B ≤ a.block ∧ O a.block) ∧ CellsAt w a vs), fun w w' hk h => ⟨fun p hp => R.stab hk (h.1 p hp), fun hl => by
  obtain ⟨a, h1, h2, h3⟩ := h.2 hl
  exact ⟨a, h1, h2, cells_stab (hk _ h2) h3⟩⟩⟩
theorem Cls.poolQ_more {α μ : Type} {R : Rel α μ} {B : Nat} {O : Nat → Prop} {l l2 : List (α × μ)} {q : Option Addr} {H : List Eng.Item} {S : List World} {w w' : World} (h : Cls (pool R B O l :: H) S w) (hB : B ≤ w.heap.size) (he : Ext w w') (hx : ∀ p ∈ l2, R.ok w' (fun k => (B ≤ k ∧ O k) ∨ fresh w w' k) p.1 p.2) (vs : List Value) (hq : 0 < vs.length → ∃ a, q = some a ∧ fresh w w' a.block ∧ CellsAt w' a vs) :
  Cls (poolQ R B (fun k => O k ∨ fresh w w' k) (l ++ l2) q vs :: H) S w' := by
 have hm : pool R B O l ∈ pool R B O l :: H := .head _
 have hi := h.holds _ hm
 have hl := h.lt _ hm
 refine h.turn 0 rfl ⟨he.os, he.tape, he.output, he.size, fun k hk hn => he.block k hk id⟩ ⟨fun z hz => ?_, fun hv => ?_⟩ (fun k hk => ?_) (fun k hk => ⟨hk.1, .inl hk.2⟩)
 ·rcases List.mem_append.1 hz with hz | hz
  ·refine R.mono (O := fun k => B ≤ k ∧ O k) (fun k hk => ⟨hk.1, .inl hk.2⟩) (R.stab (fun k hk => he.block k (hl k hk) id) (hi z hz))
  ·refine R.mono (fun k hk => ?_) (hx z hz)
   rcases hk with hk | hk
   ·exact ⟨hk.1, .inl hk.2⟩
   ·exact ⟨Nat.le_trans hB hk.1, .inr hk⟩
 ·obtain ⟨a, h1, h2, h3⟩ := hq hv
  exact ⟨a, h1, ⟨Nat.le_trans hB h2.1, .inr h2⟩, h3⟩
 ·obtain ⟨h3, h4 | h4⟩ := hk
  ·exact ⟨.inl ⟨h3, h4⟩, Nat.lt_of_lt_of_le (hl k ⟨h3, h4⟩) he.size⟩
  ·exact ⟨.inr h4.1, h4.2⟩
theorem Cls.poolQ_pool {α μ : Type} {R : Rel α μ} {B : Nat} {O : Nat → Prop} {l l2 : List (α × μ)} {q : Option Addr} {vs : List Value} {H : List Eng.Item} {S : List World} {w : World} {p : Nat} {F : Eng.Item → List Eng.Item} (hh : Hole p H (poolQ R B O l q vs) F) (h : Cls H S w) (hs : ∀ x ∈ l2, x ∈ l) : Cls (F (pool R B O l2)) S w := by
 obtain ⟨h1, h2⟩ := hh.eq
 rw [h2]
 have hm := List.mem_of_getElem? h1
 exact h.turn p h1 (Keep.refl _ _) (fun z hz => (h.holds _ hm).1 z (hs z hz)) (fun k hk => ⟨.inl hk, h.lt _ hm k hk⟩) (fun k hk => hk)
theorem Cls.pool_sub {α μ : Type} {R : Rel α μ} {B : Nat} {O : Nat → Prop} {l l2 : List (α × μ)} {H : List Eng.Item} {S : List World} {w : World} {p : Nat} {F : Eng.Item → List Eng.Item} (hh : Hole p H (pool R B O l) F) (h : Cls H S w) (hs : ∀ x ∈ l2, x ∈ l) : Cls (F (pool R B O l2)) S w := by
 obtain ⟨h1, h2⟩ := hh.eq
 rw [h2]
 have hm := List.mem_of_getElem? h1
 exact h.turn p h1 (Keep.refl _ _) (fun z hz => h.holds _ hm z (hs z hz)) (fun k hk => ⟨.inl hk, h.lt _ hm k hk⟩) (fun k hk => hk)
def covU (z : Option (List Bool × Bool)) : List Bool := match z with
 | none => []
 | some r => r.1
def covN (z : Option (List Bool × Bool)) : Bool := match z with
 | none => false
 | some r => r.2
theorem Split_len {D : List Da} {R : List (List Ty)} {V x : List Ty} (h : x ∈ Pt.Split D R V) : x.length = V.length := by
 unfold Pt.Split at h
 split at h
 ·cases h
 ·obtain ⟨y, _, rfl⟩ := List.mem_map.1 h
  rw [List.length_set]
theorem cat_append2 {α : Type} (f : α → List Value) : ∀ (l m : List α), cat f (l ++ m) = cat f l ++ cat f m
 | [], m => rfl
 | x :: l, m => by rw [List.cons_append, cat, cat_append2 f l m, cat, List.append_assoc]
structure GW where
 m : Nat
 ws : List (List Ty)
 us : List Bool
 nn : Bool
 O : Nat → Prop
 q : Option Addr
 c : Nat
 it : List (List Ty × PY)
 O2 : Nat → Prop
end Go.Pt
namespace Go.Proofs.Ytleggdmhihcafaa.pt
open Go.RowKit Go.Eng Go.Pt
set_option maxRecDepth 100000
theorem Cover_calls (qd : Option Addr) (cd : Nat) (ds : List (Da × DY)) (q : Option Addr) (cap : Nat) (rs : List (List Ty × PY)) (cols m0 : Nat) (w : World) (hdl : ds.length ≤ 9223372036854775807) (h256 : ∀ x ∈ ds, x.1.cons.length ≤ 256) (hr64 : rs.length ≤ 64) (hc16 : cols ≤ 16) (hm0 : m0 ≤ 3000) (hd : Arr datR w (low w) ds qd) (h : Arr patsR w (low w) rs q) (hg : ∀ r ∈ rs, r.1.length = cols ∧ ∀ p ∈ r.1, GoodP (ds.map Prod.fst) p) :
  Calls Try.prog 9 [.slice qd ds.length cd, .slice q rs.length cap, .int .i64 (cols : Int), .int .i64 (m0 : Int)].toArray w fun e w' => ∃ q' c', e = .returned (.tuple #[.slice q' (covU (coverE (ds.map Prod.fst) (rs.map Prod.fst) m0 [anys cols] (List.replicate rs.length false) false)).length c', .bool (covN (coverE (ds.map Prod.fst) (rs.map Prod.fst) m0 [anys cols] (List.replicate rs.length false) false)), .bool (coverE (ds.map Prod.fst) (rs.map Prod.fst) m0 [anys cols] (List.replicate rs.length false) false).isSome]) ∧ BoolsO w' (fresh w w') (covU (coverE (ds.map Prod.fst) (rs.map Prod.fst) m0 [anys cols] (List.replicate rs.length false) false)) q' ∧ Ext w w' := by
 obtain ⟨D, hD⟩ : ∃ D, ds.map Prod.fst = D := ⟨_, rfl⟩
 obtain ⟨R, hR⟩ : ∃ R, rs.map Prod.fst = R := ⟨_, rfl⟩
 have hRl : R.length = rs.length := by rw [← hR, List.length_map]
 rw [hD] at hg
 rw [hD, hR]
 obtain ⟨Z, hZ⟩ : ∃ Z, coverE D R m0 [anys cols] (List.replicate rs.length false) false = Z := ⟨_, rfl⟩
 rw [hZ]
 refine enter Try.func9 rfl Try.ntmps9 rfl (Cls.start w) ?_
 (simp only [argEnv, Nat.zero_add, Nat.reduceAdd])
 apply W.sr
 apply oas; rfl; rfl
 apply oas; rfl; rfl
 apply oas; rfl; rfl
 apply OL.nsr
 apply omv; rfl; rfl
 apply oop; rfl; apply Pev.len_slice; rfl; exact yes; rfl
 apply OL.makeSlice; rfl; rfl; rfl; rfl; rfl; rfl; rfl; omega; (intro bk hbk; simp only [AllLe, and_true] at hbk)
 apply oas; rfl; rfl
 apply OL.nsr
 apply oas; rfl; rfl
 apply OL.nsr
 apply omv; rfl; rfl
 revert bk
 intro b11 hb11
 rw [bls_zero]
 skip
 refine OL.makeSliceK (f := tyR.c) (x0 := (anyT, (none, 0))) (m := cols) rfl rfl rfl rfl rfl rfl rfl rfl (by omega) (fun b20 hb20 => ?_)
 simp only [AllLe, and_true] at hb20
 apply OL.buildSlice; rfl; rfl; rfl; exact Elems.au; rfl; rfl; (intro bk hbk; simp only [AllLe, and_true] at hbk)
 apply oas; rfl; rfl
 apply OL.nx
 apply W.sb
 revert bk
 intro b21 hb21
 refine W.loop (G := GW) (fun g => coverE D R g.m g.ws g.us g.nn = Z ∧ g.it.map Prod.fst = g.ws.reverse ∧ g.us.length = rs.length ∧ g.m ≤ 3000 ∧ g.it.length ≤ 1 + 257 * (3000 - g.m) ∧ ∀ x ∈ g.it, x.1.length = cols) (fun g => g.m)
  (fun g => [(0, true, .slice qd ds.length cd), (1, true, .slice q rs.length cap), (3, true, .int .i64 (g.m : Int)), (11, true, .slice (some ⟨b11, 0, none⟩) rs.length rs.length), (12, true, .bool g.nn), (13, true, .slice g.q g.it.length g.c)])
  (fun g => Cls [row w.heap.size g.O g.q g.it.length g.c 25 1 (cat patsR.c g.it), pool patsR w.heap.size g.O2 g.it, blk b11 4 (bls g.us)] [w])
  ⟨m0, [anys cols], List.replicate rs.length false, false, fun k => k = b21, some ⟨b21, 0, none⟩, 1, [(anys cols, (some ⟨b20, 0, none⟩, cols))], fun k => False ∨ (blk b20 50 (cat tyR.c (List.replicate cols (anyT, ((none, 0) : PY))))).own k⟩ ⟨hZ, rfl, List.length_replicate, hm0, by simp, fun x hx => by
   rw [List.mem_singleton] at hx
   rw [hx]
   exact anys_len cols⟩ (by exact Sub.au) (fun w' hw' => ?_) ?_
 ·have h1 := ((hw'.perm (List.Perm.swap _ _ _)).pool_nil patsR w.heap.size).perm (List.Perm.swap _ _ _)
  have hb := h1.item (i := blk b20 50 (cat tyR.c (List.replicate cols (anyT, ((none, 0) : PY))))) (.head _)
  have h2 := h1.pool_join (x := anys cols) (y := ((some ⟨b20, 0, none⟩, cols) : PY)) (fun x hx => by
   obtain rfl : x = b20 := hx
   exact hb20) ⟨⟨List.replicate cols (anyT, ((none, 0) : PY)), anyl_map cols, ⟨fun _ => ⟨⟨b20, 0, none⟩, rfl, ⟨hb20, .inr rfl⟩, fun m v hm => by
    rw [add_mid, blk_cell hb, Nat.zero_add]
    exact hm⟩, anyl_ok w' _ cols⟩⟩, by rw [anys_len]; exact Nat.le_refl _, by rw [anys_len]; omega⟩
  have h3 := (h2.perm (List.Perm.swap _ _ _)).blk_row (base := w.heap.size) (m := 1) (sz := 1) (by omega) rfl (by decide)
  have e : cat patsR.c [(anys cols, ((some ⟨b20, 0, none⟩, cols) : PY))] = [Value.slice (some ⟨b20, 0, none⟩) cols cols] := by
   show [Value.slice (some ⟨b20, 0, none⟩) (anys cols).length cols] ++ [] = _
   rw [anys_len]
   rfl
  rw [e]
  exact h3
 rintro ⟨m, ws, us, nn, Ow, qw, cw, it, O2⟩ ⟨hco, hit, hus, hm3, hil, hcols⟩
 simp only at hco hit hus hm3 hil hcols ⊢
 refine W.fact (φ := 0 < it.length → ∃ g, qw = some ⟨g, 0, none⟩ ∧ w.heap.size ≤ g) (fun w' hw' hl => row_is (hw'.item (.head _)) (by rw [cat_length (f := patsR.c) patsR.clen]; exact Nat.mul_pos hl patsR.pos)) (fun hqw => ?_)
 refine W.fact (fun w2 hw2 => row_cap (hw2.item (.head _))) (fun hcw => ?_)
 apply W.seq
 apply W.sr
 apply omv; rfl; rfl
 apply oop; rfl; apply Pev.len_slice; rfl; exact yes; rfl
 apply obn; rfl; rfl; rfl; apply Bin.gtr
 apply OL.nx
 by_cases hl0 : it.length = 0
 ·have hin : it = [] := List.length_eq_zero_iff.1 hl0
  have hwn : ws = [] := by
   rw [hin, List.map_nil] at hit
   exact List.reverse_eq_nil_iff.1 hit.symm
  have hZe : Z = some (us, nn) := by
   rw [← hco, hwn]
   cases m <;> rfl
  refine W.cond rfl (fun hb => absurd (of_decide_eq_true hb) (by omega)) (fun _ => ?_)
  refine W.xt ?_
  with_reducible apply At.next
  apply W.sr
  apply omv; rfl; rfl
  apply omv; rfl; rfl
  apply oas; rfl; rfl
  apply oas; rfl; rfl
  apply oas; rfl; rfl
  apply OL.nx
  apply W.ret
  rw [hZe, ← hus]
  ((with_reducible apply At.fin3); rfl; rfl; rfl; rfl; intro w' hw')
  have hb := hw'.item (i := blk b11 4 (bls us)) (.tail _ (.tail _ (.head _)))
  refine ⟨some ⟨b11, 0, none⟩, us.length, rfl, fun _ => ⟨⟨b11, 0, none⟩, rfl, ⟨by omega, hw'.lt _ (.tail _ (.tail _ (.head _))) b11 rfl⟩, fun j v hj => ?_⟩, hw'.toExt (.head _) (fun k hk => NotOwned.row (by omega) (NotOwned.pool (by omega) (NotOwned.blk (by omega) .nil)))⟩
  rw [add_mid, blk_cell hb, Nat.zero_add]
  exact hj
 obtain ⟨g9, rfl, hg9⟩ := hqw (by omega)
 obtain ⟨it', z, rfl⟩ : ∃ it' z, it = it' ++ [z] := ⟨it.dropLast, it.getLast (fun e => hl0 (by rw [e]; rfl)), (List.dropLast_concat_getLast _).symm⟩
 obtain ⟨ws', rfl⟩ : ∃ ws', ws = z.1 :: ws' := by
  rw [List.map_append, List.map_singleton] at hit
  have := congrArg List.reverse hit
  rw [List.reverse_reverse, List.reverse_append] at this
  exact ⟨_, this.symm⟩
 have hit : it'.map Prod.fst = ws'.reverse := by
  rw [List.map_append, List.map_singleton, List.reverse_cons] at hit
  exact List.append_cancel_right hit
 have hlen : (it' ++ [z]).length = it'.length + 1 := by simp
 refine W.cond rfl (fun _ => ?_) (fun hb => absurd (of_decide_eq_false hb) (by omega))
 apply W.sk
 apply W.block
 apply W.seq
 apply W.sr
 apply omv; rfl; rfl
 apply obn; rfl; rfl; rfl; apply Bin.sub_in; omega
 apply oas; rfl; rfl
 apply OL.nsr
 apply omv; rfl; rfl
 apply obn; rfl; rfl; rfl; apply Bin.lss
 apply OL.nx
 by_cases hm : m = 0
 ·subst hm
  have hZe : Z = none := by
   rw [← hco]
   rfl
  refine W.cond rfl (fun _ => ?_) (fun hb => absurd (of_decide_eq_false hb) (by omega))
  apply W.sr
  apply oas; rfl; rfl
  apply oas; rfl; rfl
  apply oas; rfl; rfl
  apply OL.nx
  refine W.rt ?_
  rw [hZe]
  ((with_reducible apply At.fin3); rfl; rfl; rfl; rfl; intro w' hw')
  exact ⟨none, 0, rfl, fun hl => (by cases hl), hw'.toExt (.head _) (fun k hk => NotOwned.row (by omega) (NotOwned.pool (by omega) (NotOwned.blk (by omega) .nil)))⟩
 obtain ⟨m, rfl⟩ : ∃ m', m = m' + 1 := ⟨m - 1, by omega⟩
 rw [coverE] at hco
 refine W.cond rfl (fun hb => absurd (of_decide_eq_true hb) (by omega)) (fun _ => ?_)
 have hI1 : ((it'.length + 1 : Nat) : Int) - 1 = (it'.length : Int) := by omega
 have hI2 : ((m + 1 : Nat) : Int) - 1 = (m : Int) := by omega
 have hzlast : (it' ++ [z])[it'.length]? = some z := by simp
 rw [hlen] at hcw ⊢
 apply W.sk
 apply W.sr
 apply omv; rfl; rfl
 apply omv; rfl; rfl
 apply oop; rfl; apply Pev.len_slice; rfl; exact yes; rfl
 apply obn; rfl; rfl; rfl; apply Bin.sub_in; omega
 apply oop; rfl; apply Pev.idxB; rfl; exact yes; rfl; exact yes; rfl; intro hcond; omega; rfl
 (((first | (with_reducible apply OL.op) | (with_reducible apply QL.op)); (exact Guard.au); rfl; rfl); (refine Pev.load_cls (v := .slice z.2.1 z.1.length z.2.2) rfl (by (first | exact fun _ => rfl | exact fun h => h | (intro h; simp_all; done))) rfl (fun _ w2 hw2 => ?_)))
 ·rw [show 0 + (((it'.length + 1 : Nat) : Int) - 1).toNat * 1 = it'.length * patsR.sz + 0 by
   show _ = it'.length * 1 + 0
   omega]
  exact row_cell (hw2.item (.head _)) (cat_get (f := patsR.c) patsR.clen hzlast 0 _ rfl)
 rw [hI1, hI2]
 apply oas; rfl; rfl
 apply OL.nsr
 apply omv; rfl; rfl
 apply omv; rfl; rfl
 apply oop; rfl; apply Pev.len_slice; rfl; exact yes; rfl
 apply obn; rfl; rfl; rfl; apply Bin.sub_in; omega
 apply oop; rfl; apply Pev.slice_hi; rfl; exact yes; rfl; exact yes; rfl; (first | exact (Int.toNat_of_nonneg (by omega)).symm | omega); intro hcond; omega
 apply oas; rfl; rfl
 apply OL.nsr
 apply omv; rfl; rfl
 apply omv; rfl; rfl
 rw [hI1, Int.toNat_natCast]
 refine OL.cls (C' := Cls [row w.heap.size Ow (some ⟨g9, 0, none⟩) it'.length cw 25 1 (cat patsR.c it'), pool patsR w.heap.size O2 (it' ++ [z]), blk b11 4 (bls us)] [w]) (fun w2 hw2 => hw2.rowPop it'.length (cat patsR.c it') .z (by omega) (by rw [cat_append, Nat.mul_one, List.take_left' (by rw [cat_length (f := patsR.c) patsR.clen]; exact Nat.mul_one _)])) ?_
 have hHc : ∀ k, k < w.heap.size → NotOwned [row w.heap.size Ow (some ⟨g9, 0, none⟩) it'.length cw 25 1 (cat patsR.c it'), pool patsR w.heap.size O2 (it' ++ [z]), blk b11 4 (bls us)] k := fun k hk => NotOwned.row (by omega) (NotOwned.pool (by omega) (NotOwned.blk (by omega) .nil))
 have hzl : z.1.length = cols := hcols z (by simp)
 have hcols' : ∀ x ∈ it', x.1.length = cols := fun x hx => hcols x (by simp [hx])
 rw [hlen] at hil
 (((first | (with_reducible apply OL.op) | (with_reducible apply QL.op)); (exact Guard.au); rfl; rfl); (refine Pev.call (v := .int .i64 (which R z.1 0)) rfl (by exact Args.au) (fun _ w2 hw2 => ?_)))
 ·obtain ⟨⟨zs, hzs, hzsa⟩, _, _⟩ := hw2.item (i := pool patsR w.heap.size O2 (it' ++ [z])) (.tail _ (.head _)) z (by simp)
  have hzsl : zs.length = z.1.length := by rw [← hzs, List.length_map]
  have hc := Which_calls q z.2.1 cap z.2.2 rs zs w2 (by omega) (by omega) (h.at hw2 (.head _) hHc) (Arr.mono (fun k hk => hw2.lt (pool patsR w.heap.size O2 (it' ++ [z])) (.tail _ (.head _)) k hk) hzsa) (fun r hr => by rw [(hg r hr).1]; omega)
  rw [hR, hzs, hzsl] at hc
  exact hc.mono (fun e w3 h => ⟨h.1, hw2.ext h.2⟩)
 apply oas; rfl; rfl
 apply OL.nx
 apply W.block
 apply W.sr
 apply omv; rfl; rfl
 apply obn; rfl; rfl; rfl; apply Bin.geq
 apply oas; rfl; rfl
 apply OL.nx
 have hwc := which_cases R z.1 0
 by_cases h0 : 0 ≤ which R z.1 0
 ·rw [if_pos h0] at hco
  obtain ⟨i, hi, hil2⟩ : ∃ i : Nat, which R z.1 0 = (i : Int) ∧ i < rs.length := by
   rcases hwc with ⟨i, r, g1, g2, _⟩ | ⟨g1, _⟩ | ⟨g1, _⟩
   ·exact ⟨i, by rw [g1, Nat.zero_add], by rw [← hRl]; exact (List.getElem?_eq_some_iff.1 g2).1⟩
   ·omega
   ·omega
  rw [hi, Int.toNat_natCast] at hco
  rw [hi]
  refine W.cond rfl (fun _ => ?_) (fun hb => absurd (of_decide_eq_false hb) (by omega))
  apply W.reg
  apply omv; rfl; rfl
  apply omv; rfl; rfl
  apply oop; rfl; apply Pev.idxB; rfl; exact yes; rfl; exact yes; rfl; intro hcond; omega; rfl
  (apply OL.storeI); rfl; rfl; rfl; rfl; rfl; (exact Swap.au); (rw [bls_length]; omega)
  have hset : (bls us).set (0 + (i : Int).toNat * 1) (.bool true) = bls (us.set i true) := by
   rw [show 0 + (i : Int).toNat * 1 = i by simp, bls_set]
  rw [hset]
  apply OL.nil
  with_reducible apply At.in_normal
  with_reducible apply At.in_normal
  refine At.again ⟨m, ws', us.set i true, nn, Ow, some ⟨g9, 0, none⟩, cw, it', O2⟩ ⟨hco, hit, by simp only [List.length_set]; exact hus, by simp only; omega, by simp only; omega, hcols'⟩ (by simp only; omega) (by exact Sub.au) (fun w' hw' => Cls.pool_sub (.s .z) hw' (fun x hx => by simp [hx]))
 rw [if_neg h0] at hco
 clear hwc
 refine W.cond rfl (fun hb => absurd (of_decide_eq_true hb) h0) (fun _ => ?_)
 apply W.sr
 apply omv; rfl; rfl
 apply obn; rfl; rfl; rfl; apply Bin.eql
 apply oas; rfl; rfl
 apply OL.nx
 by_cases h1 : which R z.1 0 = -1
 ·rw [if_pos h1] at hco
  refine W.cond rfl (fun _ => ?_) (fun hb => absurd (of_decide_eq_false hb) (by omega))
  apply W.reg
  apply oas; rfl; rfl
  apply OL.nil
  with_reducible apply At.in_normal
  with_reducible apply At.in_normal
  refine At.again ⟨m, ws', us, true, Ow, some ⟨g9, 0, none⟩, cw, it', O2⟩ ⟨hco, hit, hus, by simp only; omega, by simp only; omega, hcols'⟩ (by simp only; omega) (by exact Sub.au) (fun w' hw' => Cls.pool_sub (.s .z) hw' (fun x hx => by simp [hx]))
 rw [if_neg h1] at hco
 refine W.cond rfl (fun hb => absurd (of_decide_eq_true hb) h1) (fun _ => ?_)
 apply W.reg
 apply omv; rfl; rfl
 apply omv; rfl; rfl
 apply omv; rfl; rfl
 apply omv; rfl; rfl
 have hspl : ∀ x ∈ Pt.Split D R z.1, x.length = cols := fun x hx => by rw [Split_len hx, hzl]
 obtain ⟨SP, hSP⟩ : ∃ SP, Pt.Split D R z.1 = SP := ⟨_, rfl⟩
 rw [hSP] at hco hspl
 refine OL.callE (α := (Option Addr × Nat × List (List Ty × PY)) × (Nat → Prop)) (fun y => .slice y.1.1 y.1.2.2.length y.1.2.1) (fun y => y.1.2.2.map Prod.fst = SP ∧ y.1.2.2.length ≤ 257) (fun y => Cls [row w.heap.size Ow (some ⟨g9, 0, none⟩) it'.length cw 25 1 (cat patsR.c it'), poolQ patsR w.heap.size y.2 ((it' ++ [z]) ++ y.1.2.2) y.1.1 (cat patsR.c y.1.2.2), blk b11 4 (bls us)] [w]) rfl rfl (by exact Args.au) (fun w2 hw2 => ?_) ?_
 ·obtain ⟨⟨zs, hzs, hzsa⟩, _, _⟩ := hw2.item (i := pool patsR w.heap.size O2 (it' ++ [z])) (.tail _ (.head _)) z (by simp)
  have hzsl : zs.length = z.1.length := by rw [← hzs, List.length_map]
  have hc := Split_calls qd cd ds hdl h256 zs q z.2.1 cap z.2.2 rs w2 (fun k => w.heap.size ≤ k ∧ O2 k) hr64 (fun k hk => hw2.lt (pool patsR w.heap.size O2 (it' ++ [z])) (.tail _ (.head _)) k hk) (hd.at hw2 (.head _) hHc) (h.at hw2 (.head _) hHc) hzsa (by omega) (fun r hr => by
   obtain ⟨g1, g2⟩ := hg r hr
   rw [hD]
   exact ⟨by omega, by omega, g2⟩)
  rw [hD, hR, hzs, hzsl, hSP] at hc
  refine hc.mono ?_
  rintro e w3 ⟨q', c', ls, k1, k2, k3, k4, k5, k6, k7⟩
  refine ⟨((q', c', ls), fun k => O2 k ∨ fresh w2 w3 k), k1, ⟨k2, k3⟩, ?_⟩
  exact (Cls.poolQ_more (hw2.perm (List.Perm.swap _ _ _)) (hw2.kp w (.head _)).size k7 (fun p hp => k6 p hp) (cat patsR.c ls) k5).perm (List.Perm.swap _ _ _)
 rintro ⟨⟨qs, csn, ls⟩, O3⟩ ⟨hls, hlsl⟩
 simp only at hls hlsl ⊢
 skip
 have hsl : ∀ w2, Cls [row w.heap.size Ow (some ⟨g9, 0, none⟩) it'.length cw 25 1 (cat patsR.c it'), poolQ patsR w.heap.size O3 ((it' ++ [z]) ++ ls) qs (cat patsR.c ls), blk b11 4 (bls us)] [w] w2 → SlAt w2 w2.heap.size qs (cat patsR.c ls) := fun w2 hw2 hl => by
  obtain ⟨a9, g1, g2, g3⟩ := (hw2.item (i := poolQ patsR w.heap.size O3 ((it' ++ [z]) ++ ls) qs (cat patsR.c ls)) (.tail _ (.head _))).2 hl
  exact ⟨a9, g1, hw2.lt (poolQ patsR w.heap.size O3 ((it' ++ [z]) ++ ls) qs (cat patsR.c ls)) (.tail _ (.head _)) _ g2, g3⟩
 (apply OL.appendK (news := cat patsR.c ls)); rfl; rfl; rfl; rfl; (exact Hole.au); (exact hsl); (exact cat_length patsR.clen ls); (exact cat_oneL (fun x => rfl) ls); (exact ⟨w, .head _, Nat.le_refl _⟩); (omega); (intro O1 q1 c1)
 apply oas; rfl; rfl
 apply OL.nil
 with_reducible apply At.in_normal
 with_reducible apply At.in_normal
 rw [show it'.length + ls.length = (it' ++ ls).length by simp, ← cat_append2 patsR.c it' ls]
 refine At.again ⟨m, SP.reverse ++ ws', us, nn, O1, q1, c1, it' ++ ls, O3⟩ ⟨hco, by simp only [List.map_append, hit, hls, List.reverse_append, List.reverse_reverse], hus, by simp only; omega, by simp only [List.length_append]; omega, fun x hx => (List.mem_append.1 hx).elim (hcols' x) (fun hx => hspl x.1 (by rw [← hls]; exact List.mem_map_of_mem hx))⟩ (by simp only; omega) (by exact Sub.au) (fun w' hw' => Cls.poolQ_pool (.s .z) hw' (fun x hx => ?_))
 rcases List.mem_append.1 hx with hx | hx
 ·simp [hx]
 ·simp [hx]
end Go.Proofs.Ytleggdmhihcafaa.pt

/- The walk of the reference's SamePats. Conditions: none. -/
namespace Go.Pt
open Go.Eng
theorem ty_ext {p q : Ty} : p = q ↔ p.kind = q.kind ∧ p.name = q.name ∧ p.var = q.var ∧ p.args = q.args := by
 cases p
 cases q
 simp [Ty.kind, Ty.name, Ty.var, Ty.args]
end Go.Pt
namespace Go.Proofs.Ytleggdmhihcafaa.pt
open Go.RowKit Go.Eng Go.Pt
set_option maxRecDepth 100000
theorem SamePats_of : ∀ (n : Nat) (ps vs : List (Ty × PY)) (q q2 : Option Addr) (cap cap2 : Nat) (w : World), Ty.szs (ps.map Prod.fst) < n → ps.length ≤ 9223372036854775807 → vs.length ≤ 9223372036854775807 → Arr tyR w (low w) ps q → Arr tyR w (low w) vs q2 →
  Calls Try.prog 19 [.slice q ps.length cap, .slice q2 vs.length cap2].toArray w fun e w' => e = .returned (.bool (@decide (ps.map Prod.fst = vs.map Prod.fst) (Classical.propDecidable _))) ∧ Ext w w' := by
 intro n
 induction n with
 | zero => intro ps vs q q2 cap cap2 w hn; omega
 | succ n ih =>
  intro ps vs q q2 cap cap2 w hn hpl hvl h h2
  refine enter Try.func19 rfl Try.ntmps19 rfl (Cls.start w) ?_
  obtain ⟨P, hP⟩ : ∃ P, ps.map Prod.fst = P := ⟨_, rfl⟩
  obtain ⟨V, hV⟩ : ∃ V, vs.map Prod.fst = V := ⟨_, rfl⟩
  have hPl : P.length = ps.length := by rw [← hP, List.length_map]
  have hVl : V.length = vs.length := by rw [← hV, List.length_map]
  rw [hP] at hn
  rw [hP, hV]
  (simp only [argEnv, Nat.zero_add, Nat.reduceAdd])
  apply W.sr
  apply oas; rfl; rfl
  apply OL.nx
  apply W.seq
  apply W.sr
  apply omv; rfl; rfl
  apply oop; rfl; apply Pev.len_slice; rfl; exact yes; rfl
  apply omv; rfl; rfl
  apply oop; rfl; apply Pev.len_slice; rfl; exact yes; rfl
  apply obn; rfl; rfl; rfl; apply Bin.neq
  apply OL.nx
  (refine W.cnd (fun hne => ?_) (fun hne => ?_)) <;> (try (exfalso; first | omega | exact hne trivial | contradiction))
  ·have hd : @decide (P = V) (Classical.propDecidable _) = false := @decide_eq_false _ (Classical.propDecidable _) (fun e => by subst e; omega)
   rw [hd]
   apply W.sr
   apply oas; rfl; rfl
   apply OL.nx
   refine W.rt ?_
   ((with_reducible apply At.fin1); rfl; rfl; intro w' hw')
   exact ⟨rfl, by (exact hw'.fr)⟩
  have hll : ps.length = vs.length := by omega
  apply W.sk
  apply W.seq
  apply W.sr
  apply omv; rfl; rfl
  apply oop; rfl; apply Pev.len_slice; rfl; exact yes; rfl
  apply omv; rfl; rfl
  apply OL.nx
  apply W.block
  refine W.loop (G := Nat) (fun i => i ≤ ps.length ∧ P.take i = V.take i) (fun i => ps.length - i)
   (fun i => [(1, true, .slice q2 vs.length cap2), (13, true, .slice q ps.length cap), (14, true, .int .i64 (ps.length : Int)), (15, true, .int .i64 (i : Int))])
   (fun i => Cls [] [w]) 0 ⟨Nat.zero_le _, rfl⟩ (by exact Sub.au) (fun w' hw' => hw') ?_
  rintro i ⟨hi, hi0⟩
  simp only at hi hi0 ⊢
  apply W.sr
  apply obn; rfl; rfl; rfl; apply Bin.lss
  apply OL.nx
  apply W.seq
  (refine W.cnd (fun hlt => ?_) (fun hlt => ?_)) <;> (try (exfalso; first | omega | exact hlt trivial | contradiction))
  ·obtain ⟨a, u, rfl, hab, hu, hcell, hok⟩ := h.get (show i < ps.length by omega)
   obtain ⟨a2, v, rfl, hab2, hv, hcell2, hok2⟩ := h2.get (show i < vs.length by omega)
   have hab : a.block < w.heap.size := hab
   have hab2 : a2.block < w.heap.size := hab2
   have hcell : CellsAt w (a.add (i * 4)) [.int .i64 u.1.kind, .string u.1.name, .int .i64 u.1.var, .slice u.2.1 u.1.args.length u.2.2] := hcell
   have hcell2 : CellsAt w (a2.add (i * 4)) [.int .i64 v.1.kind, .string v.1.name, .int .i64 v.1.var, .slice v.2.1 v.1.args.length v.2.2] := hcell2
   have hPu : P[i]? = some u.1 := by rw [← hP, List.getElem?_map, hu]; rfl
   have hVv : V[i]? = some v.1 := by rw [← hV, List.getElem?_map, hv]; rfl
   obtain ⟨pz, hpz, hpza, hpzl, _⟩ := pat_kids hok
   obtain ⟨vz, hvz, hvza, hvzl, _⟩ := pat_kids hok2
   have hpzl2 : pz.length = u.1.args.length := by rw [← hpz, List.length_map]
   have hvzl2 : vz.length = v.1.args.length := by rw [← hvz, List.length_map]
   have hsz : Ty.szs (pz.map Prod.fst) < n := by
    have h1 := Ty.sz_get hPu
    have h2 := sz_args u.1
    rw [hpz]
    omega
   apply W.sk
   apply W.sb
   apply W.sr
   apply omv; rfl; rfl
   apply oop; rfl; apply Pev.idx; rfl; exact yes; rfl; exact yes; rfl; rfl; intro hcond; omega
   apply oop; rfl; apply Pev.load_keptA; rfl; exact yes; exact .head _; rfl; intro hcond; assumption; rfl; intro hcond; (rw [add_block]; assumption); intro hcond; exact NotOwned.au
   apply OL.alloc; rfl; rfl; exact CellsL.agg; (intro bk hbk; simp only [AllLe, and_true] at hbk)
   apply oas; rfl; rfl
   apply OL.storeB; rfl; rfl; exact CellsL.agg; rfl; rfl; rfl; exact Swap.au; exact Put.au
   apply OL.nsr
   apply omv; rfl; rfl
   apply omv; rfl; rfl
   apply oop; rfl; apply Pev.idx; rfl; exact yes; rfl; exact yes; rfl; rfl; intro hcond; omega
   apply oop; rfl; apply Pev.load_keptA; rfl; exact yes; exact .head _; rfl; intro hcond; assumption; rfl; intro hcond; (rw [add_block]; assumption); intro hcond; exact NotOwned.au
   apply OL.alloc; rfl; rfl; exact CellsL.agg; (intro bk hbk; simp only [AllLe, and_true] at hbk)
   apply OL.storeB; rfl; rfl; exact CellsL.agg; rfl; rfl; rfl; exact Swap.au; exact Put.au
   apply OL.nsr
   apply ofa; rfl; rfl; rfl
   apply old; rfl; rfl; exact .tail _ (.head _); rfl; rfl
   apply ofa; rfl; rfl; rfl
   apply old; rfl; rfl; exact .head _; rfl; rfl
   apply obn; rfl; rfl; rfl; apply Bin.neq
   apply omv; rfl; rfl
   apply ono; rfl; rfl; rfl; apply Pev.fld; rfl; exact yes; rfl
   apply ono; rfl; rfl; rfl; apply Pev.load_blk; rfl; exact fun h => h; exact .tail _ (.head _); rfl; rfl
   apply ono; rfl; rfl; rfl; apply Pev.fld; rfl; exact yes; rfl
   apply ono; rfl; rfl; rfl; apply Pev.load_blk; rfl; exact fun h => h; exact .head _; rfl; rfl
   apply ono; rfl; rfl; rfl; apply Pev.bin; rfl; exact fun h => h; rfl; exact fun h => h; intro hcond; apply Bin.str_neq
   apply oop; rfl; apply Pev.pick_or; rfl; exact yes; rfl; exact fun h => h
   apply omv; rfl; rfl
   apply ono; rfl; rfl; rfl; apply Pev.fld; rfl; exact yes; rfl
   apply ono; rfl; rfl; rfl; apply Pev.load_blk; rfl; exact fun h => h; exact .tail _ (.head _); rfl; rfl
   apply ono; rfl; rfl; rfl; apply Pev.fld; rfl; exact yes; rfl
   apply ono; rfl; rfl; rfl; apply Pev.load_blk; rfl; exact fun h => h; exact .head _; rfl; rfl
   apply ono; rfl; rfl; rfl; apply Pev.bin; rfl; exact fun h => h; rfl; exact fun h => h; intro hcond; apply Bin.neq
   apply oop; rfl; apply Pev.pick_or; rfl; exact yes; rfl; exact fun h => h
   apply omv; rfl; rfl
   apply ono; rfl; rfl; rfl; apply Pev.fld; rfl; exact yes; rfl
   apply ono; rfl; rfl; rfl; apply Pev.load_blk; rfl; exact fun h => h; exact .tail _ (.head _); rfl; rfl
   apply ono; rfl; rfl; rfl; apply Pev.fld; rfl; exact yes; rfl
   apply ono; rfl; rfl; rfl; apply Pev.load_blk; rfl; exact fun h => h; exact .head _; rfl; rfl
   rename_i b6 hb6
   (((first | (with_reducible apply OL.op) | (with_reducible apply QL.op)); (exact Guard.au); rfl; rfl); (refine Pev.call (v := .bool (@decide (u.1.args = v.1.args) (Classical.propDecidable _))) rfl (by exact Args.au) (fun _ w2 hw2 => ?_)))
   ·have hH : ∀ k, k < w.heap.size → NotOwned [blk bk 50 [.int .i64 v.1.kind, .string v.1.name, .int .i64 v.1.var, .slice v.2.1 v.1.args.length v.2.2], blk b6 50 [.int .i64 u.1.kind, .string u.1.name, .int .i64 u.1.var, .slice u.2.1 u.1.args.length u.2.2]] k := fun k hk => NotOwned.blk (by omega) (NotOwned.blk (by omega) .nil)
    have hc := ih pz vz u.2.1 v.2.1 u.2.2 v.2.2 w2 hsz (by omega) (by omega) (hpza.at hw2 (.head _) hH) (hvza.at hw2 (.head _) hH)
    rw [hpzl2, hvzl2, hpz, hvz] at hc
    exact hc.mono (fun e w3 h => ⟨h.1, hw2.ext h.2⟩)
   apply ono; rfl; rfl; rfl; apply Pev.not; rfl; exact fun h => h
   apply oop; rfl; apply Pev.pick_or; rfl; exact yes; rfl; exact fun h => h
   apply OL.nx
   by_cases heq : u.1 = v.1
   ·refine W.cond rfl (fun hb => ?_) (fun _ => ?_)
    ·exfalso
     rw [heq] at hb
     simp at hb
    ·apply W.skip
     with_reducible apply At.in_normal
     with_reducible apply At.next
     apply W.reg
     apply obn; rfl; rfl; rfl; apply Bin.add_in; omega
     apply omv; rfl; rfl
     apply OL.nil
     exact At.again (i + 1) ⟨by omega, by rw [List.take_add_one, List.take_add_one, hPu, hVv, hi0, heq]⟩ (by omega) (by exact Sub.au) (fun w' hw' => hw'.thin (by exact Thin.au))
   ·have hd : @decide (P = V) (Classical.propDecidable _) = false := @decide_eq_false _ (Classical.propDecidable _) (fun e => heq (by
     rw [e, hVv] at hPu
     exact (Option.some.inj hPu).symm))
    refine W.cond rfl (fun _ => ?_) (fun hb => ?_)
    ·rw [hd]
     apply W.sr
     apply oas; rfl; rfl
     apply OL.nx
     refine W.rt ?_
     ((with_reducible apply At.fin1); rfl; rfl; intro w' hw')
     exact ⟨rfl, by (exact hw'.fr)⟩
    ·exfalso
     apply heq
     rw [ty_ext]
     simpa [and_assoc] using hb
  ·obtain rfl : i = ps.length := by omega
   have hd : @decide (P = V) (Classical.propDecidable _) = true := @decide_eq_true _ (Classical.propDecidable _) (by rw [← hPl, List.take_length, hPl, hll, ← hVl, List.take_length] at hi0; exact hi0)
   rw [hd]
   refine W.xt ?_
   with_reducible apply At.next
   apply W.sr
   apply oas; rfl; rfl
   apply OL.nx
   apply W.ret
   ((with_reducible apply At.fin1); rfl; rfl; intro w' hw')
   exact ⟨rfl, by (exact hw'.fr)⟩
end Go.Proofs.Ytleggdmhihcafaa.pt

/- The walks of patterns.size and small. Conditions: none. -/
namespace Go.Proofs.Ytleggdmhihcafaa.pt
open Go.RowKit Go.Eng Go.Pt
set_option maxRecDepth 100000
theorem size_calls (b : Nat) (s0 : World) (hb : s0.heap.size ≤ b) : ∀ (n : Nat) (q : Option Addr) (cap : Nat) (ps : List (Ty × PY)) (d m : Nat) (w : World), Ty.szs (ps.map Prod.fst) < n → ps.length ≤ 9223372036854775807 → Arr tyR s0 (low s0) ps q → d ≤ 21 → m ≤ 400 → Cls [blk b 3 [.int .i64 (m : Int)]] [s0] w →
  Calls Try.prog 66 [.slice q ps.length cap, .int .i64 (d : Int), .pointer (some ⟨b, 0, none⟩)].toArray w fun e w' => e = .returned (.bool (szA (ps.map Prod.fst) d m).1) ∧ Cls [blk b 3 [.int .i64 ((szA (ps.map Prod.fst) d m).2 : Int)]] [s0] w' := by
 intro n
 induction n with
 | zero =>
  intro q cap ps d m w hn
  omega
 | succ n ih =>
  intro q cap ps d m w hn hlen h hd hm hw
  refine enter Try.func66 rfl Try.ntmps66 rfl hw ?_
  (simp only [argEnv, Nat.zero_add, Nat.reduceAdd])
  apply W.sr
  apply oas; rfl; rfl
  apply OL.nx
  apply W.seq
  apply W.sr
  apply omv; rfl; rfl
  apply obn; rfl; rfl; rfl; apply Bin.gtr
  apply OL.nx
  (refine W.cnd (fun hd20 => ?_) (fun hd20 => ?_)) <;> (try (exfalso; first | omega | exact hd20 trivial | contradiction))
  ·have he : szA (ps.map Prod.fst) d m = (decide (ps.length = 0), m) := by
    cases ps with
    | nil => rfl
    | cons p r => rw [List.map_cons, szA, if_pos (by omega)]; rfl
   rw [he]
   apply W.sr
   apply omv; rfl; rfl
   apply oop; rfl; apply Pev.len_slice; rfl; exact yes; rfl
   apply obn; rfl; rfl; rfl; apply Bin.eql
   apply oas; rfl; rfl
   apply OL.nx
   refine W.rt ?_
   ((with_reducible apply At.fin1); rfl; rfl; intro w' hw')
   exact ⟨by simp, hw'⟩
  apply W.sk
  apply W.seq
  apply W.sr
  apply omv; rfl; rfl
  apply oop; rfl; apply Pev.len_slice; rfl; exact yes; rfl
  apply omv; rfl; rfl
  apply OL.nx
  apply W.block
  refine W.loop (G := Nat × Nat) (fun g => g.1 ≤ ps.length ∧ g.2 ≤ 400 ∧ szA ((ps.drop g.1).map Prod.fst) d g.2 = szA (ps.map Prod.fst) d m) (fun g => ps.length - g.1)
   (fun g => [(1, true, .int .i64 (d : Int)), (2, true, .pointer (some ⟨b, 0, none⟩)), (14, true, .slice q ps.length cap), (15, true, .int .i64 (ps.length : Int)), (16, true, .int .i64 (g.1 : Int))])
   (fun g => Cls [blk b 3 [.int .i64 (g.2 : Int)]] [s0]) (0, m) ⟨Nat.zero_le _, hm, rfl⟩ (by exact Sub.au) (fun w' hw' => hw') ?_
  rintro ⟨i, mi⟩ ⟨hi, hmi, hrest⟩
  simp only at hi hmi hrest ⊢
  apply W.sr
  apply obn; rfl; rfl; rfl; apply Bin.lss
  apply OL.nx
  apply W.seq
  (refine W.cnd (fun hlt => ?_) (fun hlt => ?_)) <;> (try (exfalso; first | omega | exact hlt trivial | contradiction))
  ·obtain ⟨a, u, rfl, hab, hu, hcell, hok⟩ := h.get (show i < ps.length by omega)
   have hab : a.block < s0.heap.size := hab
   have hcell : CellsAt s0 (a.add (i * 4)) [.int .i64 u.1.kind, .string u.1.name, .int .i64 u.1.var, .slice u.2.1 u.1.args.length u.2.2] := hcell
   obtain ⟨pz, hpz, hpza, hpzl, _⟩ := pat_kids hok
   have hpzl2 : pz.length = u.1.args.length := by rw [← hpz, List.length_map]
   have hdr : ps.drop i = u :: ps.drop (i + 1) := by
    have hl : i < ps.length := by omega
    rw [List.drop_eq_getElem_cons hl]
    rw [List.getElem?_eq_getElem hl] at hu
    rw [Option.some.inj hu]
   rw [hdr, List.map_cons, szA, if_neg (by omega)] at hrest
   have husz : Ty.szs (pz.map Prod.fst) < n := by
    have h1 := Ty.sz_get (i := i) (t := u.1) (show (ps.map Prod.fst)[i]? = some u.1 by rw [List.getElem?_map, hu]; rfl)
    have h2 := sz_args u.1
    rw [hpz]
    omega
   by_cases h400 : 400 < mi + 1
   ·rw [if_pos h400] at hrest
    rw [← hrest]
    apply W.sk
    apply W.sb
    apply W.sr
    apply oop; rfl; apply Pev.idx; rfl; exact yes; rfl; exact yes; rfl; rfl; intro hcond; omega
    apply oop; rfl; apply Pev.load_keptA; rfl; exact yes; exact .head _; rfl; intro hcond; assumption; rfl; intro hcond; (rw [add_block]; assumption); intro hcond; exact NotOwned.au
    apply OL.alloc; rfl; rfl; exact CellsL.agg; (intro bk hbk; simp only [AllLe, and_true] at hbk)
    apply OL.storeB; rfl; rfl; exact CellsL.agg; rfl; rfl; rfl; exact Swap.au; exact Put.au
    apply OL.nsr
    apply omv; rfl; rfl
    apply oop; rfl; apply Pev.nil_ptr; rfl; exact yes
    apply old; rfl; rfl; exact .tail _ (.head _); rfl; rfl
    apply obn; rfl; rfl; rfl; apply Bin.add_in; omega
    apply oop; rfl; apply Pev.nil_ptr; rfl; exact yes
    apply OL.storeB; rfl; rfl; exact CellsL.one rfl; rfl; rfl; rfl; exact Swap.au; exact Put.au
    apply OL.nsr
    apply omv; rfl; rfl
    apply oop; rfl; apply Pev.nil_ptr; rfl; exact yes
    apply old; rfl; rfl; exact .tail _ (.head _); rfl; rfl
    apply obn; rfl; rfl; rfl; apply Bin.gtr
    apply omv; rfl; rfl
    apply ono; rfl; rfl; rfl; apply Pev.fld; rfl; exact yes; rfl
    apply ono; rfl; rfl; rfl; apply Pev.load_blk; rfl; exact fun h => h; exact .head _; rfl; rfl
    apply ono; rfl; rfl; rfl; apply Pev.move; rfl; exact yes
    apply ono; rfl; rfl; rfl; apply Pev.bin; rfl; exact fun h => h; rfl; exact yes; intro hcond; apply Bin.add_in; omega
    apply ono; rfl; rfl; rfl; apply Pev.move; rfl; exact yes
    apply OL.gateOff; exact Guard.no rfl rfl; (simp; omega); rfl
    apply OL.gateOff; exact Guard.no rfl rfl; (simp; omega); rfl
    apply oop; rfl; apply Pev.pick_on; rfl; exact yes; (intro hcond; simp; omega); rfl; exact yes
    apply OL.nx
    refine W.cond rfl (fun _ => ?_) (fun hb => by cases hb)
    apply W.sr
    apply oas; rfl; rfl
    apply OL.nx
    refine W.rt ?_
    ((with_reducible apply At.fin1); rfl; rfl; intro w' hw')
    exact ⟨rfl, hw'.thin (.blk (by simp only [AllLe, and_true]; omega) Thin.same)⟩
   ·rw [if_neg h400] at hrest
    have hgt : (!decide ((400 : Int) < (mi : Int) + 1)) = true := by simp; omega
    apply W.sk
    apply W.sb
    apply W.sr
    apply oop; rfl; apply Pev.idx; rfl; exact yes; rfl; exact yes; rfl; rfl; intro hcond; omega
    apply oop; rfl; apply Pev.load_keptA; rfl; exact yes; exact .head _; rfl; intro hcond; assumption; rfl; intro hcond; (rw [add_block]; assumption); intro hcond; exact NotOwned.au
    apply OL.alloc; rfl; rfl; exact CellsL.agg; (intro bk hbk; simp only [AllLe, and_true] at hbk)
    apply OL.storeB; rfl; rfl; exact CellsL.agg; rfl; rfl; rfl; exact Swap.au; exact Put.au
    apply OL.nsr
    apply omv; rfl; rfl
    apply oop; rfl; apply Pev.nil_ptr; rfl; exact yes
    apply old; rfl; rfl; exact .tail _ (.head _); rfl; rfl
    apply obn; rfl; rfl; rfl; apply Bin.add_in; omega
    apply oop; rfl; apply Pev.nil_ptr; rfl; exact yes
    apply OL.storeB; rfl; rfl; exact CellsL.one rfl; rfl; rfl; rfl; exact Swap.au; exact Put.au
    apply OL.nsr
    apply omv; rfl; rfl
    apply oop; rfl; apply Pev.nil_ptr; rfl; exact yes
    apply old; rfl; rfl; exact .tail _ (.head _); rfl; rfl
    apply obn; rfl; rfl; rfl; apply Bin.gtr
    apply omv; rfl; rfl
    apply ono; rfl; rfl; rfl; apply Pev.fld; rfl; exact yes; rfl
    apply ono; rfl; rfl; rfl; apply Pev.load_blk; rfl; exact fun h => h; exact .head _; rfl; rfl
    apply ono; rfl; rfl; rfl; apply Pev.move; rfl; exact yes
    apply ono; rfl; rfl; rfl; apply Pev.bin; rfl; exact fun h => h; rfl; exact yes; intro hcond; apply Bin.add_in; omega
    apply ono; rfl; rfl; rfl; apply Pev.move; rfl; exact yes
    rw [hgt]
    ((apply OL.ungate); (exact Guard.au); (exact hgt))
    refine OL.callE (α := Unit) (fun _ => .bool (szP u.1 (d + 1) (mi + 1)).1) (fun _ => True) (fun _ => Cls [blk b 3 [.int .i64 ((szP u.1 (d + 1) (mi + 1)).2 : Int)]] [s0]) rfl rfl (by exact Args.au) (fun w2 hw2 => ?_) ?_
    ·have hc := ih u.2.1 u.2.2 pz (d + 1) (mi + 1) w2 husz (by omega) hpza (by omega) (by omega) (hw2.thin (.blk (by simp only [AllLe, and_true]; omega) Thin.same))
     rw [hpzl2, hpz, ← szP_eq] at hc
     exact hc.mono (fun e w3 h => ⟨(), h.1, trivial, h.2⟩)
    intro _ _
    have hle := szP_le u.1 (d + 1) (mi + 1) (by omega)
    apply ono; rfl; rfl; rfl; apply Pev.not; rfl; exact yes
    apply oop; rfl; apply Pev.pick_or; rfl; exact yes; rfl; exact fun h => h
    apply OL.nx
    refine W.cond rfl (fun hb => ?_) (fun hb => ?_)
    ·have hb : (szP u.1 (d + 1) (mi + 1)).1 = false := by
      cases hx : (szP u.1 (d + 1) (mi + 1)).1 with
      | false => rfl
      | true => rw [hx] at hb; simp at hb; omega
     rw [if_neg (by rw [hb]; decide)] at hrest
     rw [← hrest]
     apply W.sr
     apply oas; rfl; rfl
     apply OL.nx
     refine W.rt ?_
     ((with_reducible apply At.fin1); rfl; rfl; intro w' hw')
     exact ⟨rfl, hw'⟩
    ·have hb : (szP u.1 (d + 1) (mi + 1)).1 = true := by
      cases hx : (szP u.1 (d + 1) (mi + 1)).1 with
      | true => rfl
      | false => rw [hx] at hb; simp at hb
     rw [if_pos hb] at hrest
     apply W.skip
     with_reducible apply At.in_normal
     with_reducible apply At.next
     apply W.reg
     apply obn; rfl; rfl; rfl; apply Bin.add_in; omega
     apply omv; rfl; rfl
     apply OL.nil
     exact At.again (i + 1, (szP u.1 (d + 1) (mi + 1)).2) ⟨by simp only; omega, (hle.2.2 hb).1, hrest⟩ (by simp only; omega) (by exact Sub.au) (fun w' hw' => hw')
  ·rw [List.drop_eq_nil_of_le (by omega)] at hrest
   rw [← hrest]
   refine W.xt ?_
   with_reducible apply At.next
   apply W.sr
   apply oas; rfl; rfl
   apply OL.nx
   apply W.ret
   ((with_reducible apply At.fin1); rfl; rfl; intro w' hw')
   exact ⟨rfl, hw'⟩
/-! the data types -/
def idxD (f : Da → Bool) : List (Da × DY) → Nat → Int
 | [], _ => -1
 | p :: r, i => if f p.1 then (i : Int) else idxD f r (i + 1)
theorem idxD_drop {f : Da → Bool} {ps : List (Da × DY)} {i : Nat} {p : Da × DY} (h : ps[i]? = some p) : idxD f (ps.drop i) i = if f p.1 then (i : Int) else idxD f (ps.drop (i + 1)) (i + 1) := by
 obtain ⟨h1, rfl⟩ := List.getElem?_eq_some_iff.1 h
 rw [List.drop_eq_getElem_cons h1, idxD]
theorem idxD_any (f : Da → Bool) : ∀ (ps : List (Da × DY)) (i : Nat), decide (0 ≤ idxD f ps i) = (ps.map Prod.fst).any f
 | [], i => rfl
 | p :: r, i => by
  rw [idxD, List.map_cons, List.any_cons]
  split
  ·rename_i h
   rw [h, Bool.true_or]
   simp
  ·rename_i h
   rw [idxD_any f r (i + 1), Bool.not_eq_true] at *
   simp [h]
theorem small1_calls (x : Da) (y : DY) (w : World) : Calls Try.prog 68 [.agg (datR.cells x y).toArray].toArray w fun e w' => e = .returned (.bool (decide (256 < x.cons.length))) ∧ Ext w w' := by
 refine enter Try.func68 rfl Try.ntmps68 rfl (Cls.start w) ?_
 (simp only [argEnv, Nat.zero_add, Nat.reduceAdd])
 simp only [datR]
 apply W.sr
 apply OL.box; rfl; rfl; exact CellsL.agg; (intro bk hbk; simp only [AllLe, and_true] at hbk)
 apply oas; rfl; rfl
 apply OL.nsr
 apply ofa; rfl; rfl; rfl
 apply old; rfl; rfl; exact .head _; rfl; rfl
 apply oop; rfl; apply Pev.len_slice; rfl; exact yes; rfl
 apply obn; rfl; rfl; rfl; apply Bin.gtr
 apply oas; rfl; rfl
 apply OL.nx
 apply W.ret
 ((with_reducible apply At.fin1); rfl; rfl; intro w' hw')
 exact ⟨congrArg (fun b => Ending.returned (Value.bool b)) (decide_eq_decide.2 (by omega)), by (exact hw'.fr)⟩
theorem DIndexFunc_calls (q : Option Addr) (cap : Nat) (ps : List (Da × DY)) (w : World) (hlen : ps.length ≤ 9223372036854775807) (h : Arr datR w (low w) ps q) :
  Calls Try.prog 89 #[.slice q ps.length cap, .func (.func 68) #[] #[]] w fun e w' => e = .returned (.int .i64 (idxD (fun x => decide (256 < x.cons.length)) ps 0)) ∧ Ext w w' := by
 refine enter Try.func89 rfl Try.ntmps89 rfl (Cls.start w) ?_
 obtain ⟨p, hp⟩ : ∃ p : Da → Bool, (fun x : Da => decide (256 < x.cons.length)) = p := ⟨_, rfl⟩
 rw [hp]
 (simp only [argEnv, Nat.zero_add, Nat.reduceAdd])
 apply W.sr
 apply oas; rfl; rfl
 apply OL.nx
 apply W.seq
 apply W.sr
 apply omv; rfl; rfl
 apply oop; rfl; apply Pev.len_slice; rfl; exact yes; rfl
 apply omv; rfl; rfl
 apply OL.nx
 apply W.block
 refine W.loop (G := Nat) (fun i => i ≤ ps.length ∧ idxD p (ps.drop i) i = idxD p ps 0) (fun i => ps.length - i)
  (fun i => [(8, true, .int .i64 (i : Int)), (7, true, .int .i64 (ps.length : Int)), (0, true, .slice q ps.length cap), (1, true, .func (.func 68) #[] #[])])
  (fun i => Cls [] [w]) 0 ⟨by omega, rfl⟩ (by exact Sub.au) (fun w' hw' => hw') ?_
 rintro i ⟨hi, hrest⟩
 apply W.sr
 apply obn; rfl; rfl; rfl; apply Bin.lss
 apply OL.nx
 apply W.seq
 (refine W.cnd (fun hlt => ?_) (fun hlt => ?_)) <;> (try (exfalso; first | omega | exact hlt trivial | contradiction))
 ·obtain ⟨a, u, rfl, hab, hu, hcell, hok⟩ := h.get (show i < ps.length by omega)
  have hab : a.block < w.heap.size := hab
  have hcell : CellsAt w (a.add (i * 3)) [.string u.2.name, .int .i64 u.2.params, .slice u.2.q u.1.cons.length u.2.cap] := hcell
  have hpu : ∀ w3, Calls Try.prog 68 (([] : List Value) ++ [Value.agg #[.string u.2.name, .int .i64 u.2.params, .slice u.2.q u.1.cons.length u.2.cap]] ++ []).toArray w3 fun e w' => e = .returned (.bool (p u.1)) ∧ Ext w3 w' := fun w3 => by
   rw [← hp]
   exact small1_calls u.1 u.2 w3
  rw [idxD_drop hu] at hrest
  apply W.sk
  apply W.sb
  apply W.sr
  apply omv; rfl; rfl
  apply oas; rfl; rfl
  apply OL.nsr
  apply omv; rfl; rfl
  apply omv; rfl; rfl
  apply omv; rfl; rfl
  apply oop; rfl; apply Pev.idx; rfl; exact yes; rfl; exact yes; rfl; rfl; intro hcond; omega
  apply oop; rfl; apply Pev.load_keptA; rfl; exact yes; exact .head _; rfl; intro hcond; assumption; rfl; intro hcond; (rw [add_block]; assumption); intro hcond; exact NotOwned.au
  (((first | (with_reducible apply OL.op) | (with_reducible apply QL.op)); (exact Guard.au); rfl; rfl); (apply Pev.callv (first := []) (cap := [])); rfl; ((first | exact fun _ => rfl | exact fun h => h | (intro h; simp_all; done))); rfl; (exact Args.au); (exact (fun _ w2 hw2 => (hpu w2).mono (fun e w3 h => ⟨h.1, hw2.ext h.2⟩))))
  apply OL.nx
  refine W.cond rfl (fun heq => ?_) (fun heq => ?_)
  ·rw [if_pos heq] at hrest
   apply W.sr
   apply omv; rfl; rfl
   apply oas; rfl; rfl
   apply OL.nx
   refine W.rt ?_
   ((with_reducible apply At.fin1); rfl; rfl; intro w' hw')
   exact ⟨by rw [hrest], by (exact hw'.fr)⟩
  ·rw [if_neg (by simpa using heq)] at hrest
   apply W.skip
   with_reducible apply At.in_normal
   with_reducible apply At.next
   apply W.reg
   apply obn; rfl; rfl; rfl; apply Bin.add_in; omega
   apply omv; rfl; rfl
   apply OL.nil
   exact At.again (i + 1) ⟨by omega, hrest⟩ (by omega) (by exact Sub.au) (fun w' hw' => hw'.thin (by exact Thin.au))
 ·rw [List.drop_eq_nil_of_le (by omega), idxD] at hrest
  refine W.xt ?_
  with_reducible apply At.next
  apply W.sr
  apply oas; rfl; rfl
  apply OL.nx
  apply W.ret
  ((with_reducible apply At.fin1); rfl; rfl; intro w' hw')
  exact ⟨by rw [← hrest], by (exact hw'.fr)⟩
theorem DContainsFunc_calls (q : Option Addr) (cap : Nat) (ps : List (Da × DY)) (w : World) (hlen : ps.length ≤ 9223372036854775807) (h : Arr datR w (low w) ps q) :
  Calls Try.prog 67 #[.slice q ps.length cap, .func (.func 68) #[] #[]] w fun e w' => e = .returned (.bool ((ps.map Prod.fst).any fun x => decide (256 < x.cons.length))) ∧ Ext w w' := by
 refine enter Try.func67 rfl Try.ntmps67 rfl (Cls.start w) ?_
 (simp only [argEnv, Nat.zero_add, Nat.reduceAdd])
 apply W.sr
 apply oas; rfl; rfl
 apply OL.nsr
 apply omv; rfl; rfl
 apply omv; rfl; rfl
 (((first | (with_reducible apply OL.op) | (with_reducible apply QL.op)); (exact Guard.au); rfl; rfl); (exact Pev.call rfl (by exact Args.au) (fun _ w2 hw2 => (DIndexFunc_calls q cap ps w2 hlen (h.at hw2 (by exact mau) (fun k hk => by exact NotOwned.au))).mono (fun e w3 h => ⟨h.1, hw2.ext h.2⟩))))
 apply obn; rfl; rfl; rfl; apply Bin.geq
 apply oas; rfl; rfl
 apply OL.nx
 apply W.ret
 ((with_reducible apply At.fin1); rfl; rfl; intro w' hw')
 exact ⟨by rw [← idxD_any _ ps 0], by (exact hw'.fr)⟩
theorem small_calls (qd : Option Addr) (cd : Nat) (ds : List (Da × DY)) (q : Option Addr) (cap : Nat) (rs : List (List Ty × PY)) (w : World) (hdl : ds.length ≤ 9223372036854775807) (hd : Arr datR w (low w) ds qd) (hlen : rs.length ≤ 9223372036854775807) (h : Arr patsR w (low w) rs q) :
  Calls Try.prog 33 [.slice qd ds.length cd, .slice q rs.length cap].toArray w fun e w' => e = .returned (.bool (smallE (ds.map Prod.fst) (rs.map Prod.fst))) ∧ Ext w w' := by
 refine enter Try.func33 rfl Try.ntmps33 rfl (Cls.start w) ?_
 (simp only [argEnv, Nat.zero_add, Nat.reduceAdd])
 apply W.sr
 apply oas; rfl; rfl
 apply OL.nsr
 apply OL.alloc; rfl; rfl; exact CellsL.one rfl; (intro bk hbk; simp only [AllLe, and_true] at hbk)
 apply OL.storeB; rfl; rfl; exact CellsL.one rfl; rfl; rfl; rfl; exact Swap.au; exact Put.au
 apply OL.nx
 apply W.seq
 apply W.sr
 apply omv; rfl; rfl
 apply oop; rfl; apply Pev.len_slice; rfl; exact yes; rfl
 apply omv; rfl; rfl
 apply OL.nx
 apply W.block
 revert bk
 intro b hb
 refine W.loop (G := Nat × Nat) (fun g => g.1 ≤ rs.length ∧ g.2 ≤ 400 ∧ smR ((rs.drop g.1).map Prod.fst) g.2 = smR (rs.map Prod.fst) 0) (fun g => rs.length - g.1)
  (fun g => [(0, true, .slice qd ds.length cd), (1, true, .slice q rs.length cap), (5, true, .pointer (some ⟨b, 0, none⟩)), (8, true, .slice q rs.length cap), (9, true, .int .i64 (rs.length : Int)), (10, true, .int .i64 (g.1 : Int))])
  (fun g => Cls [blk b 3 [.int .i64 (g.2 : Int)]] [w]) (0, 0) ⟨Nat.zero_le _, Nat.zero_le _, rfl⟩ (by exact Sub.au) (fun w' hw' => hw') ?_
 rintro ⟨i, mi⟩ ⟨hi, hmi, hrest⟩
 simp only at hi hmi hrest ⊢
 have hsm : smR (rs.map Prod.fst) 0 = false → smallE (ds.map Prod.fst) (rs.map Prod.fst) = false := fun e => by unfold smallE; rw [e, Bool.false_and]
 apply W.sr
 apply obn; rfl; rfl; rfl; apply Bin.lss
 apply OL.nx
 apply W.seq
 (refine W.cnd (fun hlt => ?_) (fun hlt => ?_)) <;> (try (exfalso; first | omega | exact hlt trivial | contradiction))
 ·obtain ⟨a, u, rfl, hab, hu, hcell, hok⟩ := h.get (show i < rs.length by omega)
  have hab : a.block < w.heap.size := hab
  have hcell : w.cell? (a.add (i * 1)) = some (.slice u.2.1 u.1.length u.2.2) := hcell 0 _ rfl
  obtain ⟨⟨pr, hpr, hpra⟩, hrc, hrl⟩ := hok
  have hprl : pr.length = u.1.length := by rw [← hpr, List.length_map]
  have hdr : rs.drop i = u :: rs.drop (i + 1) := by
   have hl : i < rs.length := by omega
   rw [List.drop_eq_getElem_cons hl]
   rw [List.getElem?_eq_getElem hl] at hu
   rw [Option.some.inj hu]
  rw [hdr, List.map_cons, smR] at hrest
  by_cases h16 : 16 < u.1.length
  ·rw [if_pos h16] at hrest
   rw [hsm hrest.symm]
   apply W.sk
   apply W.sb
   apply W.sr
   apply oop; rfl; apply Pev.idx; rfl; exact yes; rfl; exact yes; rfl; rfl; intro hcond; omega
   apply oop; rfl; apply Pev.load_kept; rfl; exact yes; exact .head _; rfl; intro hcond; assumption; intro hcond; (rw [add_block]; assumption); intro hcond; exact NotOwned.au
   apply oas; rfl; rfl
   apply OL.nsr
   apply omv; rfl; rfl
   apply oop; rfl; apply Pev.len_slice; rfl; exact yes; rfl
   apply obn; rfl; rfl; rfl; apply Bin.gtr
   apply omv; rfl; rfl
   apply ono; rfl; rfl; rfl; apply Pev.move; rfl; exact yes
   apply OL.gateOff; exact Guard.no rfl rfl; (simp; omega); rfl
   apply OL.gateOff; exact Guard.no rfl rfl; (simp; omega); rfl
   apply oop; rfl; apply Pev.pick_on; rfl; exact yes; (intro hcond; simp; omega); rfl; exact yes
   apply OL.nx
   refine W.cond rfl (fun _ => ?_) (fun hb => by simp at hb)
   apply W.sr
   apply oas; rfl; rfl
   apply OL.nx
   refine W.rt ?_
   ((with_reducible apply At.fin1); rfl; rfl; intro w' hw')
   exact ⟨rfl, by (exact hw'.fr)⟩
  ·rw [if_neg h16] at hrest
   have hgt : (!decide ((16 : Int) < (u.1.length : Int))) = true := by simp; omega
   apply W.sk
   apply W.sb
   apply W.sr
   apply oop; rfl; apply Pev.idx; rfl; exact yes; rfl; exact yes; rfl; rfl; intro hcond; omega
   apply oop; rfl; apply Pev.load_kept; rfl; exact yes; exact .head _; rfl; intro hcond; assumption; intro hcond; (rw [add_block]; assumption); intro hcond; exact NotOwned.au
   apply oas; rfl; rfl
   apply OL.nsr
   apply omv; rfl; rfl
   apply oop; rfl; apply Pev.len_slice; rfl; exact yes; rfl
   apply obn; rfl; rfl; rfl; apply Bin.gtr
   apply omv; rfl; rfl
   apply ono; rfl; rfl; rfl; apply Pev.move; rfl; exact yes
   rw [hgt]
   ((apply OL.ungate); (exact Guard.au); (exact hgt))
   refine OL.callE (α := Unit) (fun _ => .bool (szA u.1 1 mi).1) (fun _ => True) (fun _ => Cls [blk b 3 [.int .i64 ((szA u.1 1 mi).2 : Int)]] [w]) rfl rfl (by exact Args.au) (fun w2 hw2 => ?_) ?_
   ·have hc := size_calls b w hb (Ty.szs (pr.map Prod.fst) + 1) u.2.1 u.2.2 pr 1 mi w2 (Nat.lt_succ_self _) (by omega) hpra (by omega) hmi hw2
    rw [hprl, hpr] at hc
    exact hc.mono (fun e w3 h => ⟨(), h.1, trivial, h.2⟩)
   intro _ _
   have hle := szA_le u.1 1 mi hmi
   apply ono; rfl; rfl; rfl; apply Pev.not; rfl; exact yes
   apply oop; rfl; apply Pev.pick_or; rfl; exact yes; rfl; exact fun h => h
   apply OL.nx
   refine W.cond rfl (fun hb => ?_) (fun hb => ?_)
   ·have hb : (szA u.1 1 mi).1 = false := by
     cases hx : (szA u.1 1 mi).1 with
     | false => rfl
     | true => rw [hx] at hb; simp at hb; omega
    rw [if_neg (by rw [hb]; decide)] at hrest
    rw [hsm hrest.symm]
    apply W.sr
    apply oas; rfl; rfl
    apply OL.nx
    refine W.rt ?_
    ((with_reducible apply At.fin1); rfl; rfl; intro w' hw')
    exact ⟨rfl, by (exact hw'.fr)⟩
   ·have hb : (szA u.1 1 mi).1 = true := by
     cases hx : (szA u.1 1 mi).1 with
     | true => rfl
     | false => rw [hx] at hb; simp at hb
    rw [if_pos hb] at hrest
    apply W.skip
    with_reducible apply At.in_normal
    with_reducible apply At.next
    apply W.reg
    apply obn; rfl; rfl; rfl; apply Bin.add_in; omega
    apply omv; rfl; rfl
    apply OL.nil
    exact At.again (i + 1, (szA u.1 1 mi).2) ⟨by simp only; omega, (hle.2.2 hb).1, hrest⟩ (by simp only; omega) (by exact Sub.au) (fun w' hw' => hw')
 ·rw [List.drop_eq_nil_of_le (by omega)] at hrest
  have hsE : smallE (ds.map Prod.fst) (rs.map Prod.fst) = (decide (rs.length ≤ 64) && !(ds.map Prod.fst).any fun x => decide (256 < x.cons.length)) := by
   unfold smallE
   rw [← hrest, List.length_map]
   rfl
  rw [hsE]
  refine W.xt ?_
  with_reducible apply At.next
  apply W.sr
  apply omv; rfl; rfl
  apply oop; rfl; apply Pev.len_slice; rfl; exact yes; rfl
  apply obn; rfl; rfl; rfl; apply Bin.leq
  apply omv; rfl; rfl
  apply oy; rfl; rfl; rfl; apply Pev.move; rfl; exact yes
  (((first | (with_reducible apply OL.op) | (with_reducible apply QL.op)); (exact Guard.au); rfl; rfl); (refine Pev.call (v := .bool ((ds.map Prod.fst).any fun x => decide (256 < x.cons.length))) rfl (by exact Args.au) (fun _ w2 hw2 => (DContainsFunc_calls qd cd ds w2 hdl (hd.at hw2 (.head _) (fun k hk => by exact NotOwned.au))).mono (fun e w3 h => ⟨h.1, hw2.ext h.2⟩))))
  apply oy; rfl; rfl; rfl; apply Pev.not; rfl; exact fun h => h
  apply oop; rfl; apply Pev.pick_and; rfl; exact yes; rfl; exact fun h => h
  apply oas; rfl; rfl
  apply OL.nx
  apply W.ret
  ((with_reducible apply At.fin1); rfl; rfl; intro w' hw')
  exact ⟨by rw [show decide ((rs.length : Int) ≤ 64) = decide (rs.length ≤ 64) from decide_eq_decide.2 (by omega)], by (exact hw'.fr)⟩
end Go.Proofs.Ytleggdmhihcafaa.pt

/- The walks of patterns' kind and pattern. Conditions: none. -/
namespace Go.Proofs.Ytleggdmhihcafaa.pt
open Go.RowKit Go.Eng Go.Pt
set_option maxRecDepth 100000
theorem kind_calls (T : TT) (p : Ty) (y : PY) (w : World) (hT : T.ok w) : Calls Try.prog 70 [T.v, .agg (tyc p y).toArray].toArray w fun e w' => e = .returned (.int .i64 (kindE T.D p)) ∧ Ext w w' := by
 refine enter Try.func70 rfl Try.ntmps70 rfl (Cls.start w) ?_
 unfold TT.v
 (simp only [argEnv, Nat.zero_add, Nat.reduceAdd])
 simp only [tyc]
 apply W.sr
 apply OL.box; rfl; rfl; exact CellsL.agg; (intro bk hbk; simp only [AllLe, and_true] at hbk)
 apply OL.box; rfl; rfl; exact CellsL.agg; (intro bk hbk; simp only [AllLe, and_true] at hbk)
 apply oas; rfl; rfl
 apply OL.nx
 apply W.seq
 apply W.sr
 apply ofa; rfl; rfl; rfl
 apply old; rfl; rfl; exact .head _; rfl; rfl
 apply OL.nx
 apply W.block
 apply W.sr
 apply obn; rfl; rfl; rfl; apply Bin.eql
 apply oas; rfl; rfl
 apply OL.nx
 rename_i b0 hb0
 (refine W.cnd (fun h2 => ?_) (fun h2 => ?_)) <;> (try (exfalso; first | omega | exact h2 trivial | contradiction))
 ·apply W.sr
  apply oas; rfl; rfl
  apply OL.nx
  refine W.rt ?_
  ((with_reducible apply At.fin1); rfl; rfl; intro w' hw')
  exact ⟨by unfold kindE; rw [if_pos h2], by (exact hw'.fr)⟩
 apply W.sr
 apply obn; rfl; rfl; rfl; apply Bin.eql
 apply oas; rfl; rfl
 apply OL.nx
 (refine W.cnd (fun h3 => ?_) (fun h3 => ?_)) <;> (try (exfalso; first | omega | exact h3 trivial | contradiction))
 ·have hno : ∀ k, k < w.heap.size → NotOwned [blk bk 50 [.int .i64 p.kind, .string p.name, .int .i64 p.var, .slice y.1 p.args.length y.2], blk b0 55 [.slice T.q T.ds.length T.c, .map (some T.b)]] k := fun k hk => NotOwned.blk (by omega) (NotOwned.blk (by omega) .nil)
  obtain ⟨ix, mm, hmg⟩ : ∃ (ix mm : Int), (mget T.m p.name).getD (.agg #[.int .i64 0, .int .i64 0, .int .i64 0]) = .agg #[.int .i64 (kindE T.D p), .int .i64 ix, .int .i64 mm] := by
   unfold kindE
   rw [if_neg h2, if_pos h3]
   cases hc : conAt T.D p.name with
   | none => exact ⟨0, 0, by rw [hT.tab.none hc]; rfl⟩
   | some z =>
    obtain ⟨d, c⟩ := z
    obtain ⟨i, hi⟩ := hT.tab.con hc
    exact ⟨i, c.many, by rw [hi]; rfl⟩
  apply W.sr
  apply ofa; rfl; rfl; rfl
  apply old; rfl; rfl; exact .tail _ (.head _); rfl; rfl
  apply ofa; rfl; rfl; rfl
  apply old; rfl; rfl; exact .head _; rfl; rfl
  (((first | (with_reducible apply OL.op) | (with_reducible apply QL.op)); (exact Guard.au); rfl; rfl); (refine Pev.lookup_v (m := T.m) (v := .agg #[.int .i64 (kindE T.D p), .int .i64 ix, .int .i64 mm]) (zv := .agg #[.int .i64 0, .int .i64 0, .int .i64 0]) rfl (by (first | exact fun _ => rfl | exact fun h => h | (intro h; simp_all; done))) rfl (by (first | exact fun _ => rfl | exact fun h => h | (intro h; simp_all; done))) rfl rfl (fun w2 hw2 => (hT.at hw2 (by exact mau) hno).map_) hmg))
  apply oop; rfl; apply Pev.field; rfl; exact yes; rfl; rfl
  apply oas; rfl; rfl
  apply OL.nx
  refine W.rt ?_
  ((with_reducible apply At.fin1); rfl; rfl; intro w' hw')
  exact ⟨rfl, by (exact hw'.fr)⟩
 ·apply W.skip
  with_reducible apply At.in_normal
  with_reducible apply At.next
  apply W.sr
  apply oas; rfl; rfl
  apply OL.nx
  apply W.ret
  ((with_reducible apply At.fin1); rfl; rfl; intro w' hw')
  exact ⟨by unfold kindE; rw [if_neg h2, if_neg h3], by (exact hw'.fr)⟩
theorem pattern_calls (T : TT) : ∀ (n : Nat) (p : Ty) (y : PY) (w : World), p.sz < n → T.ok w → TyO w (low w) p y →
  Calls Try.prog 35 [T.v, .agg (tyc p y).toArray].toArray w fun e w' => e = .returned (.int .i64 (patE T.D p)) ∧ Ext w w' := by
 intro n
 induction n with
 | zero => intro p y w hn; omega
 | succ n ih =>
  intro p y w hn hT hp
  obtain ⟨pz, hpz, hpza, hpzl, _⟩ := pat_kids hp
  have hpzl2 : pz.length = p.args.length := by rw [← hpz, List.length_map]
  have hpe : patE T.D p = if p.kind = 0 ∨ p.kind = 1 then 0 else if p.kind = 2 then (if p.var < -1073741824 ∨ 1073741823 < p.var then 4 else 0) else if p.kind = 3 then (match conAt T.D p.name with
   | none => 6
   | some (_, c) => if p.args.length = c.many then patL T.D p.args else 3)
   else 3 := by
   cases p with
   | mk k nm m l => rw [patE]; rfl
  refine enter Try.func35 rfl Try.ntmps35 rfl (Cls.start w) ?_
  unfold TT.v
  (simp only [argEnv, Nat.zero_add, Nat.reduceAdd])
  simp only [tyc]
  apply W.sr
  apply OL.box; rfl; rfl; exact CellsL.agg; (intro bk hbk; simp only [AllLe, and_true] at hbk)
  apply OL.box; rfl; rfl; exact CellsL.agg; (intro bk hbk; simp only [AllLe, and_true] at hbk)
  apply oas; rfl; rfl
  apply OL.nx
  apply W.seq
  apply W.sr
  apply ofa; rfl; rfl; rfl
  apply old; rfl; rfl; exact .head _; rfl; rfl
  apply OL.nx
  apply W.block
  apply W.seq
  apply W.sr
  apply obn; rfl; rfl; rfl; apply Bin.eql
  apply oas; rfl; rfl
  apply OL.nx
  rename_i b0 hb0
  revert bk
  intro b1 hb1
  have hno : ∀ k, k < w.heap.size → NotOwned [blk b1 50 [.int .i64 p.kind, .string p.name, .int .i64 p.var, .slice y.1 p.args.length y.2], blk b0 55 [.slice T.q T.ds.length T.c, .map (some T.b)]] k := fun k hk => NotOwned.blk (by omega) (NotOwned.blk (by omega) .nil)
  by_cases h01 : p.kind = 0 ∨ p.kind = 1
  ·rw [hpe, if_pos h01]
   (refine W.cnd (fun h0 => ?_) (fun h0 => ?_)) <;> (try (exfalso; first | omega | exact h0 trivial | contradiction))
   ·apply W.sk
    refine W.cond rfl (fun _ => ?_) (fun hb => by simp at hb; omega)
    apply W.sr
    apply oas; rfl; rfl
    apply OL.nx
    refine W.rt ?_
    ((with_reducible apply At.fin1); rfl; rfl; intro w' hw')
    exact ⟨rfl, by (exact hw'.fr)⟩
   ·apply W.reg
    apply obn; rfl; rfl; rfl; apply Bin.eql
    apply oas; rfl; rfl
    apply OL.nx
    refine W.cond rfl (fun _ => ?_) (fun hb => by simp at hb; omega)
    apply W.sr
    apply oas; rfl; rfl
    apply OL.nx
    refine W.rt ?_
    ((with_reducible apply At.fin1); rfl; rfl; intro w' hw')
    exact ⟨rfl, by (exact hw'.fr)⟩
  rw [if_neg h01] at hpe
  refine W.cond rfl (fun hb => by simp at hb; omega) (fun _ => ?_)
  apply W.reg
  apply obn; rfl; rfl; rfl; apply Bin.eql
  apply oas; rfl; rfl
  apply OL.nx
  refine W.cond rfl (fun hb => by simp at hb; omega) (fun _ => ?_)
  apply W.sr
  apply obn; rfl; rfl; rfl; apply Bin.eql
  apply oas; rfl; rfl
  apply OL.nx
  by_cases h2 : p.kind = 2
  ·rw [if_pos h2] at hpe
   refine W.cond rfl (fun _ => ?_) (fun hb => by simp at hb; omega)
   apply W.seq
   apply W.sr
   apply ofa; rfl; rfl; rfl
   apply old; rfl; rfl; exact .head _; rfl; rfl
   apply obn; rfl; rfl; rfl; apply Bin.lss
   apply omv; rfl; rfl
   apply ono; rfl; rfl; rfl; apply Pev.fld; rfl; exact yes; rfl
   apply ono; rfl; rfl; rfl; apply Pev.load_blk; rfl; exact fun h => h; exact .head _; rfl; rfl
   apply ono; rfl; rfl; rfl; apply Pev.bin; rfl; exact fun h => h; rfl; exact yes; intro hcond; apply Bin.gtr
   apply oop; rfl; apply Pev.pick_or; rfl; exact yes; rfl; exact fun h => h
   apply OL.nx
   refine W.cond rfl (fun hb => ?_) (fun hb => ?_)
   ·have hb : p.var < -1073741824 ∨ 1073741823 < p.var := by simpa using hb
    rw [hpe, if_pos hb]
    apply W.sr
    apply oas; rfl; rfl
    apply OL.nx
    refine W.rt ?_
    ((with_reducible apply At.fin1); rfl; rfl; intro w' hw')
    exact ⟨rfl, by (exact hw'.fr)⟩
   ·have hb : ¬ (p.var < -1073741824 ∨ 1073741823 < p.var) := by
     simp at hb
     omega
    rw [hpe, if_neg hb]
    apply W.sk
    apply W.sr
    apply oas; rfl; rfl
    apply OL.nx
    refine W.rt ?_
    ((with_reducible apply At.fin1); rfl; rfl; intro w' hw')
    exact ⟨rfl, by (exact hw'.fr)⟩
  rw [if_neg h2] at hpe
  refine W.cond rfl (fun hb => by simp at hb; omega) (fun _ => ?_)
  apply W.sr
  apply obn; rfl; rfl; rfl; apply Bin.eql
  apply oas; rfl; rfl
  apply OL.nx
  by_cases h3 : p.kind = 3
  ·rw [if_pos h3] at hpe
   refine W.cond rfl (fun _ => ?_) (fun hb => by simp at hb; omega)
   cases hc : conAt T.D p.name with
   | none =>
    rw [hc] at hpe
    simp only at hpe
    rw [hpe]
    have hmg := hT.tab.none hc
    apply W.skip
    with_reducible apply At.in_normal
    with_reducible apply At.next
    apply W.sr
    apply ofa; rfl; rfl; rfl
    apply old; rfl; rfl; exact .tail _ (.head _); rfl; rfl
    apply ofa; rfl; rfl; rfl
    apply old; rfl; rfl; exact .head _; rfl; rfl
    (((first | (with_reducible apply OL.op) | (with_reducible apply QL.op)); (exact Guard.au); rfl; rfl); (refine Pev.conv (Pev.lookup2_h (m := T.m) (zv := .agg #[.int .i64 0, .int .i64 0, .int .i64 0]) rfl (by (first | exact fun _ => rfl | exact fun h => h | (intro h; simp_all; done))) rfl (by (first | exact fun _ => rfl | exact fun h => h | (intro h; simp_all; done))) rfl rfl (fun w2 hw2 => (hT.at hw2 (by exact mau) hno).map_)) (v' := .tuple #[.agg #[.int .i64 0, .int .i64 0, .int .i64 0], .bool false]) (by rw [hmg]; rfl)))
    apply omv; rfl; rfl
    apply oex; rfl; rfl; rfl
    apply oex; rfl; rfl; rfl
    apply OL.alloc; rfl; rfl; exact CellsL.agg; (intro bk hbk; simp only [AllLe, and_true] at hbk)
    apply OL.storeB; rfl; rfl; exact CellsL.agg; rfl; rfl; rfl; exact Swap.au; exact Put.au
    apply oas; rfl; rfl
    apply OL.nx
    apply W.sb
    apply W.sr
    apply omv; rfl; rfl
    apply oop; rfl; apply Pev.not; rfl; exact yes
    apply oas; rfl; rfl
    apply OL.nx
    refine W.cond rfl (fun _ => ?_) (fun hb => by cases hb)
    apply W.sr
    apply oas; rfl; rfl
    apply OL.nx
    refine W.rt ?_
    ((with_reducible apply At.fin1); rfl; rfl; intro w' hw')
    exact ⟨rfl, by (exact hw'.fr)⟩
   | some z =>
    obtain ⟨d, c⟩ := z
    rw [hc] at hpe
    simp only at hpe
    obtain ⟨ix, hmg⟩ := hT.tab.con hc
    apply W.skip
    with_reducible apply At.in_normal
    with_reducible apply At.next
    apply W.sr
    apply ofa; rfl; rfl; rfl
    apply old; rfl; rfl; exact .tail _ (.head _); rfl; rfl
    apply ofa; rfl; rfl; rfl
    apply old; rfl; rfl; exact .head _; rfl; rfl
    (((first | (with_reducible apply OL.op) | (with_reducible apply QL.op)); (exact Guard.au); rfl; rfl); (refine Pev.conv (Pev.lookup2_h (m := T.m) (zv := .agg #[.int .i64 0, .int .i64 0, .int .i64 0]) rfl (by (first | exact fun _ => rfl | exact fun h => h | (intro h; simp_all; done))) rfl (by (first | exact fun _ => rfl | exact fun h => h | (intro h; simp_all; done))) rfl rfl (fun w2 hw2 => (hT.at hw2 (by exact mau) hno).map_)) (v' := .tuple #[.agg #[.int .i64 (d : Int), .int .i64 ix, .int .i64 (c.many : Int)], .bool true]) (by rw [hmg]; rfl)))
    apply omv; rfl; rfl
    apply oex; rfl; rfl; rfl
    apply oex; rfl; rfl; rfl
    apply OL.alloc; rfl; rfl; exact CellsL.agg; (intro bk hbk; simp only [AllLe, and_true] at hbk)
    apply OL.storeB; rfl; rfl; exact CellsL.agg; rfl; rfl; rfl; exact Swap.au; exact Put.au
    apply oas; rfl; rfl
    apply OL.nx
    apply W.sb
    apply W.sr
    apply omv; rfl; rfl
    apply oop; rfl; apply Pev.not; rfl; exact yes
    apply oas; rfl; rfl
    apply OL.nx
    refine W.cond rfl (fun hb => by cases hb) (fun _ => ?_)
    apply W.sr
    apply ofa; rfl; rfl; rfl
    apply old; rfl; rfl; exact .tail _ (.head _); rfl; rfl
    apply oop; rfl; apply Pev.len_slice; rfl; exact yes; rfl
    apply ofa; rfl; rfl; rfl
    apply old; rfl; rfl; exact .head _; rfl; rfl
    apply obn; rfl; rfl; rfl; apply Bin.neq
    apply oas; rfl; rfl
    apply OL.nx
    by_cases hl : p.args.length = c.many
    ·rw [if_pos hl] at hpe
     refine W.cond rfl (fun hb => by simp at hb; omega) (fun _ => ?_)
     revert bk
     intro b5 hb5
     refine W.cls (C' := Cls [blk b5 96 [.int .i64 (d : Int), .int .i64 ix, .int .i64 (c.many : Int)], blk b1 50 [.int .i64 p.kind, .string p.name, .int .i64 p.var, .slice y.1 p.args.length y.2], blk b0 55 [.slice T.q T.ds.length T.c, .map (some T.b)]] [w]) (fun w' hw' => hw') ?_
     apply W.skip
     with_reducible apply At.in_normal
     with_reducible apply At.next
     apply W.seq
     apply W.sr
     apply ofa; rfl; rfl; rfl
     apply old; rfl; rfl; exact .tail _ (.head _); rfl; rfl
     apply oop; rfl; apply Pev.len_slice; rfl; exact yes; rfl
     apply omv; rfl; rfl
     apply OL.nx
     apply W.block
     refine W.loop (G := Nat) (fun i => i ≤ pz.length ∧ patL T.D ((pz.drop i).map Prod.fst) = patL T.D p.args) (fun i => pz.length - i)
      (fun i => [(2, true, .pointer (some ⟨b0, 0, none⟩)), (46, true, .slice y.1 p.args.length y.2), (47, true, .int .i64 (p.args.length : Int)), (48, true, .int .i64 (i : Int))])
      (fun i => Cls [blk b0 55 [.slice T.q T.ds.length T.c, .map (some T.b)]] [w]) 0 ⟨Nat.zero_le _, by rw [List.drop_zero, hpz]⟩ (by exact Sub.au) (fun w' hw' => hw'.thin (.blk (by simp only [AllLe, and_true]; omega) (.blk (by simp only [AllLe, and_true]; omega) Thin.same))) ?_
     rintro i ⟨hi, hrest⟩
     simp only at hi hrest ⊢
     apply W.sr
     apply obn; rfl; rfl; rfl; apply Bin.lss
     apply OL.nx
     apply W.seq
     (refine W.cnd (fun hlt => ?_) (fun hlt => ?_)) <;> (try (exfalso; first | omega | exact hlt trivial | contradiction))
     ·obtain ⟨a, u, hqa, hab, hu, hcell, hok⟩ := hpza.get (show i < pz.length by omega)
      have hab : a.block < w.heap.size := hab
      have hcell : CellsAt w (a.add (i * 4)) [.int .i64 u.1.kind, .string u.1.name, .int .i64 u.1.var, .slice u.2.1 u.1.args.length u.2.2] := hcell
      have hno2 : ∀ k, k < w.heap.size → NotOwned [blk b0 55 [.slice T.q T.ds.length T.c, .map (some T.b)]] k := fun k hk => NotOwned.blk (by omega) .nil
      have hdr : pz.drop i = u :: pz.drop (i + 1) := by
       have hl : i < pz.length := by omega
       rw [List.drop_eq_getElem_cons hl]
       rw [List.getElem?_eq_getElem hl] at hu
       rw [Option.some.inj hu]
      rw [hdr, List.map_cons, patL] at hrest
      have husz : u.1.sz < n := by
       have h1 := Ty.sz_get (i := i) (t := u.1) (show p.args[i]? = some u.1 by rw [← hpz, List.getElem?_map, hu]; rfl)
       have h2 := sz_args p
       omega
      rw [hqa]
      apply W.sk
      apply W.sb
      apply W.sr
      apply oop; rfl; apply Pev.idx; rfl; exact yes; rfl; exact yes; rfl; rfl; intro hcond; omega
      apply oop; rfl; apply Pev.load_keptA; rfl; exact yes; exact .head _; rfl; intro hcond; assumption; rfl; intro hcond; (rw [add_block]; assumption); intro hcond; exact NotOwned.au
      apply OL.alloc; rfl; rfl; exact CellsL.agg; (intro bk hbk; simp only [AllLe, and_true] at hbk)
      apply OL.storeB; rfl; rfl; exact CellsL.agg; rfl; rfl; rfl; exact Swap.au; exact Put.au
      apply OL.nsr
      apply oop; rfl; apply Pev.load_blkA; rfl; exact yes; exact .tail _ (.head _); rfl; exact Take.au
      apply oop; rfl; apply Pev.load_blkA; rfl; exact yes; exact .head _; rfl; exact Take.au
      have hno3 : ∀ k, k < w.heap.size → NotOwned [blk bk 50 [.int .i64 u.1.kind, .string u.1.name, .int .i64 u.1.var, .slice u.2.1 u.1.args.length u.2.2], blk b0 55 [.slice T.q T.ds.length T.c, .map (some T.b)]] k := fun k hk => NotOwned.blk (by omega) (hno2 k hk)
      (((first | (with_reducible apply OL.op) | (with_reducible apply QL.op)); (exact Guard.au); rfl; rfl); (exact Pev.call (v := .int .i64 (patE T.D u.1)) rfl (by exact Args.au) (fun _ w2 hw2 => (ih u.1 u.2 w2 husz (hT.at hw2 (.head _) hno3) (Rel.ext (R := tyR) hok (hw2.toExt (.head _) hno3))).mono (fun e w3 h => ⟨h.1, hw2.ext h.2⟩))))
      apply oas; rfl; rfl
      apply OL.nsr
      apply omv; rfl; rfl
      apply obn; rfl; rfl; rfl; apply Bin.neq
      apply OL.nx
      by_cases h0 : patE T.D u.1 = 0
      ·rw [if_pos h0] at hrest
       refine W.cond rfl (fun hb => by simp [h0] at hb) (fun _ => ?_)
       apply W.skip
       with_reducible apply At.in_normal
       with_reducible apply At.next
       apply W.reg
       apply obn; rfl; rfl; rfl; apply Bin.add_in; omega
       apply omv; rfl; rfl
       apply OL.nil
       exact At.again (i + 1) ⟨by omega, hrest⟩ (by omega) (by exact Sub.au) (fun w' hw' => hw'.thin (by exact Thin.au))
      ·rw [if_neg h0] at hrest
       rw [hpe, ← hrest]
       refine W.cond rfl (fun _ => ?_) (fun hb => by simp at hb; omega)
       apply W.sr
       apply omv; rfl; rfl
       apply oas; rfl; rfl
       apply OL.nx
       refine W.rt ?_
       ((with_reducible apply At.fin1); rfl; rfl; intro w' hw')
       exact ⟨rfl, by (exact hw'.fr)⟩
     ·rw [List.drop_eq_nil_of_le (by omega)] at hrest
      rw [hpe, ← hrest]
      refine W.xt ?_
      with_reducible apply At.next
      apply W.sr
      apply oas; rfl; rfl
      apply OL.nx
      apply W.ret
      ((with_reducible apply At.fin1); rfl; rfl; intro w' hw')
      exact ⟨rfl, by (exact hw'.fr)⟩
    ·rw [if_neg hl] at hpe
     rw [hpe]
     refine W.cond rfl (fun _ => ?_) (fun hb => by simp at hb; omega)
     apply W.sr
     apply oas; rfl; rfl
     apply OL.nx
     refine W.rt ?_
     ((with_reducible apply At.fin1); rfl; rfl; intro w' hw')
     exact ⟨rfl, by (exact hw'.fr)⟩
  ·rw [if_neg h3] at hpe
   rw [hpe]
   refine W.cond rfl (fun hb => by simp at hb; omega) (fun _ => ?_)
   apply W.sr
   apply oas; rfl; rfl
   apply OL.nx
   refine W.rt ?_
   ((with_reducible apply At.fin1); rfl; rfl; intro w' hw')
   exact ⟨rfl, by (exact hw'.fr)⟩
end Go.Proofs.Ytleggdmhihcafaa.pt

/- The walk of patterns' agree. Conditions: none. -/
namespace Go.Pt
theorem ra_false {F : Nat → Bool} {n k : Nat} (hk : k < n) (h : F k = false) : (List.range n).all F = false := by
 rw [List.all_eq_false]
 exact ⟨k, List.mem_range.2 hk, by simp [h]⟩
theorem ra_true {F : Nat → Bool} {n : Nat} (h : ∀ k, k < n → F k = true) : (List.range n).all F = true := by
 rw [List.all_eq_true]
 exact fun k hk => h k (List.mem_range.1 hk)
end Go.Pt
namespace Go.Proofs.Ytleggdmhihcafaa.pt
open Go.RowKit Go.Eng Go.Pt
set_option maxRecDepth 100000
theorem agree1_calls (p : Ty) (y : PY) (b : Nat) (v1 v2 v3 : Value) (nm : ByteArray) (w : World) (hc : (blk b 50 [v1, .string nm, v2, v3]).holds w) :
  Calls Try.prog 72 [.agg (tyc p y).toArray, .pointer (some ⟨b, 0, none⟩)].toArray w fun e w' => e = .returned (.bool (decide (p.name = nm))) ∧ Ext w w' := by
 refine enter Try.func72 rfl Try.ntmps72 rfl (Cls.start w) ?_
 (simp only [argEnv, Nat.zero_add, Nat.reduceAdd])
 simp only [tyc]
 have hcell : w.cell? ⟨b, 1, none⟩ = some (.string nm) := by rw [blk_cell hc]; rfl
 have hbl := blk_lt hc
 apply W.sr
 apply OL.box; rfl; rfl; exact CellsL.agg; (intro bk hbk; simp only [AllLe, and_true] at hbk)
 apply oas; rfl; rfl
 apply OL.nsr
 apply ofa; rfl; rfl; rfl
 apply old; rfl; rfl; exact .head _; rfl; rfl
 apply ofa; rfl; rfl; rfl
 apply oop; rfl; apply Pev.load_kept; rfl; exact yes; exact .head _; rfl; intro hcond; assumption; intro hcond; assumption; intro hcond; exact NotOwned.au
 apply obn; rfl; rfl; rfl; apply Bin.str_eql
 apply oas; rfl; rfl
 apply OL.nx
 apply W.ret
 ((with_reducible apply At.fin1); rfl; rfl; intro w' hw')
 exact ⟨rfl, by (exact hw'.fr)⟩
theorem DeleteFunc0_calls (q : Option Addr) (cap : Nat) (f : FuncId) (w : World) (hf : callable Try.prog f = true) :
  Calls Try.prog 69 #[.slice q 0 cap, .func (.func f) #[] #[]] w fun e w' => e = .returned (.slice q 0 cap) ∧ Ext w w' := by
 refine enter Try.func69 rfl Try.ntmps69 rfl (Cls.start w) ?_
 (simp only [argEnv, Nat.zero_add, Nat.reduceAdd])
 apply W.sr
 apply oas; rfl; rfl
 apply OL.nsr
 apply omv; rfl; rfl
 apply omv; rfl; rfl
 (((first | (with_reducible apply OL.op) | (with_reducible apply QL.op)); (exact Guard.au); rfl; rfl); (exact Pev.call (v := .int .i64 (-1)) rfl (by exact Args.au) (fun _ w2 hw2 => (IndexFunc_calls q cap [] f [] [] (fun _ => true) w2 (by simp) SlAt.nil hf (fun s hs => by cases hs)).mono (fun e w3 h => ⟨h.1, hw2.ext h.2⟩))))
 apply oas; rfl; rfl
 apply OL.nx
 apply W.seq
 apply W.sr
 apply omv; rfl; rfl
 apply obn; rfl; rfl; rfl; apply Bin.eql
 apply OL.nx
 refine W.cond rfl (fun _ => ?_) (fun hc => by simp at hc)
 apply W.sr
 apply omv; rfl; rfl
 apply oas; rfl; rfl
 apply OL.nx
 refine W.rt ?_
 ((with_reducible apply At.fin1); rfl; rfl; intro w' hw')
 exact ⟨rfl, by (exact hw'.fr)⟩
theorem agree_calls (T : TT) : ∀ (f : Nat) (q : Option Addr) (cap : Nat) (ps : List (Ty × PY)) (w : World), Ty.szs (ps.map Prod.fst) < f → ps.length ≤ 100000 → T.ok w → Arr tyR w (low w) ps q → (∀ p ∈ ps, Wf T.D p.1) →
  Calls Try.prog 36 [T.v, .slice q ps.length cap].toArray w fun e w' => e = .returned (.bool (agrE T.D f (ps.map Prod.fst))) ∧ Ext w w' := by
 intro f
 induction f with
 | zero => intro q cap ps w hn; omega
 | succ f ih =>
  intro q cap ps w hn hlen hT h hwf
  refine enter Try.func36 rfl Try.ntmps36 rfl (Cls.start w) ?_
  unfold TT.v
  (simp only [argEnv, Nat.zero_add, Nat.reduceAdd])
  apply W.sr
  apply OL.box; rfl; rfl; exact CellsL.agg; (intro bk hbk; simp only [AllLe, and_true] at hbk)
  apply oas; rfl; rfl
  apply OL.nsr
  apply omv; rfl; rfl
  revert bk
  intro b0 hb0
  by_cases hps : ps = []
  ·subst hps
   have hres : agrE T.D (f + 1) (([] : List (Ty × PY)).map Prod.fst) = true := by rw [agrE]; rfl
   rw [hres]
   refine OL.callE (α := Option Addr × Nat) (fun z => .slice z.1 0 z.2) (fun _ => True) (fun _ => Cls [blk b0 55 [.slice T.q T.ds.length T.c, .map (some T.b)]] [w]) rfl rfl (by exact Args.au) (fun w2 hw2 => (Clone_calls q cap [] w2 (by simp) SlAt.nil).mono (fun e w3 ⟨q', c', h1, h2, _⟩ => ⟨(q', c'), h1, trivial, hw2.ext h2⟩)) ?_
   rintro ⟨q1, c1⟩ _
   skip
   (((first | (with_reducible apply OL.op) | (with_reducible apply QL.op)); (exact Guard.au); rfl; rfl); (exact Pev.call (v := .slice q1 0 c1) rfl (by exact Args.au) (fun _ w2 hw2 => (DeleteFunc0_calls q1 c1 44 w2 rfl).mono (fun e w3 h => ⟨h.1, hw2.ext h.2⟩))))
   apply oas; rfl; rfl
   apply OL.nx
   apply W.seq
   apply W.sr
   apply omv; rfl; rfl
   apply oop; rfl; apply Pev.len_slice; rfl; exact yes; rfl
   apply omv; rfl; rfl
   apply OL.nx
   apply W.block
   refine W.loop (G := Unit) (fun _ => True) (fun _ => 0)
    (fun _ => [(17, true, .int .i64 0), (18, true, .int .i64 0), (1, true, .slice q1 0 c1)])
    (fun _ => Cls [blk b0 55 [.slice T.q T.ds.length T.c, .map (some T.b)]] [w]) () trivial (by exact Sub.au) (fun w' hw' => hw') ?_
   intro _ _
   apply W.sr
   apply obn; rfl; rfl; rfl; apply Bin.lss
   apply OL.nx
   apply W.seq
   refine W.cond rfl (fun hb => by cases hb) (fun _ => ?_)
   refine W.xt ?_
   with_reducible apply At.next
   apply W.seq
   apply W.sr
   apply omv; rfl; rfl
   apply oop; rfl; apply Pev.len_slice; rfl; exact yes; rfl
   apply omv; rfl; rfl
   apply OL.nx
   apply W.block
   refine W.loop (G := Unit) (fun _ => True) (fun _ => 0)
    (fun _ => [(33, true, .int .i64 0), (34, true, .int .i64 0)])
    (fun _ => Cls [blk b0 55 [.slice T.q T.ds.length T.c, .map (some T.b)]] [w]) () trivial (by exact Sub.au) (fun w' hw' => hw') ?_
   intro _ _
   apply W.sr
   apply obn; rfl; rfl; rfl; apply Bin.lss
   apply OL.nx
   apply W.seq
   refine W.cond rfl (fun hb => by cases hb) (fun _ => ?_)
   refine W.xt ?_
   with_reducible apply At.next
   apply W.sr
   apply oas; rfl; rfl
   apply OL.nx
   apply W.ret
   ((with_reducible apply At.fin1); rfl; rfl; intro w' hw')
   exact ⟨rfl, by (exact hw'.fr)⟩
  have hps0 : 0 < ps.length := List.length_pos_iff.2 hps
  have hH0 : ∀ k, k < w.heap.size → NotOwned [blk b0 55 [.slice T.q T.ds.length T.c, .map (some T.b)]] k := fun k hk => NotOwned.blk (by omega) .nil
  refine OL.callE (α := Nat × Nat × List Value) (fun z => .slice (some ⟨z.1, 0, none⟩) ps.length z.2.1) (fun z => w.heap.size ≤ z.1 ∧ (cat tyR.c ps ++ z.2.2).length = z.2.1 * 4) (fun z => Cls [blk z.1 50 (cat tyR.c ps ++ z.2.2), blk b0 55 [.slice T.q T.ds.length T.c, .map (some T.b)]] [w]) rfl rfl (by exact Args.au) (fun w2 hw2 => ?_) ?_
  ·refine (Clone_calls q cap ps w2 hlen (h.at hw2 (.head _) hH0).slAt).mono (fun e w3 ⟨q', c', he, hx, hg⟩ => ?_)
   obtain ⟨g, rest, rfl, hgb, hh, hcl⟩ := hg hps0
   have hws := (hw2.kp w (.head _)).size
   refine ⟨(g, c', rest), he, ⟨by simp only; omega, hcl⟩, hw2.add hx _ hh (fun k hk => ?_)⟩
   have hk' : k = g := hk
   subst hk'
   exact ⟨hgb, blk_lt hh⟩
  rintro ⟨g, c1, r1⟩ ⟨hg, hr1⟩
  simp only at hg hr1 ⊢
  skip
  obtain ⟨L, hL⟩ : ∃ L : List (Ty × PY), L = ps.filter (fun x => !free x.1) := ⟨_, rfl⟩
  have hLm : L.map Prod.fst = nf (ps.map Prod.fst) := by
   rw [hL, nf, List.filter_map]
   rfl
  have hLl : L.length ≤ ps.length := by rw [hL]; exact List.length_filter_le _ _
  have hLs : ∀ z ∈ L, z ∈ ps ∧ free z.1 = false := fun z hz => by
   rw [hL, List.mem_filter] at hz
   exact ⟨hz.1, by simpa using hz.2⟩
  refine OL.callE (α := World) (fun _ => .slice (some ⟨g, 0, none⟩) L.length c1) (fun z => Ext w z ∧ Arr tyR z (low z) L (some ⟨g, 0, none⟩) ∧ L.length ≤ c1 ∧ CellsAt z ⟨b0, 0, none⟩ [.slice T.q T.ds.length T.c, .map (some T.b)] ∧ b0 < z.heap.size) (fun z => Cls [] [z, w]) rfl rfl (by exact Args.au) (fun w2 hw2 => ?_) ?_
  ·refine (DeleteFunc_calls g c1 ps r1 44 [] [] free w2 hlen (hw2.item (.head _)) hr1 rfl (fun s hs w3 => free_calls s.1 s.2 w3)).mono (fun e w3 ⟨he, r2, hh, hl2, hk⟩ => ?_)
   rw [← hL] at he hh hl2
   have h3 := hw2.turn_blk .z hk hh
   have hb := h3.item (i := blk b0 55 [.slice T.q T.ds.length T.c, .map (some T.b)]) (.tail _ (.head _))
   have h4 := h3.thin (H' := []) (.blk (by simp only [AllLe, and_true]; omega) (.blk (by simp only [AllLe, and_true]; omega) Thin.same))
   have hx := h4.toExt (.head _) (fun k hk => .nil)
   refine ⟨w3, he, ⟨hx, Arr.of_sl (SlAt.of_blk (o := 0) hh (fun j v hj => by rw [Nat.zero_add, List.getElem?_append_left (List.getElem?_eq_some_iff.1 hj).1]; exact hj)) (fun p hp => Rel.ext (R := tyR) (h.el p (hLs p hp).1) hx), ?_, fun j v hj => by rw [add_mid, blk_cell hb, Nat.zero_add]; exact hj, blk_lt hb⟩, h4.note⟩
   rw [List.length_append, cat_length pat_len] at hl2
   omega
  rintro w1 ⟨hx1, hA, hLc, hcT, hbT⟩
  have hT1 := hT.ext hx1
  have hw1s := hx1.size
  apply oas; rfl; rfl
  apply OL.nx
  apply W.seq
  apply W.sr
  apply omv; rfl; rfl
  apply oop; rfl; apply Pev.len_slice; rfl; exact yes; rfl
  apply omv; rfl; rfl
  apply OL.nx
  apply W.block
  obtain ⟨q1, hq1⟩ : ∃ q1 : Option Addr, (some ⟨g, 0, none⟩ : Option Addr) = q1 := ⟨_, rfl⟩
  rw [hq1] at hA ⊢
  have hag : agrE T.D (f + 1) (ps.map Prod.fst) = (oneKind T.D (L.map Prod.fst) && (List.range L.length).all fun k => match (L.map Prod.fst)[k]? with
   | none => true
   | some p => ((L.map Prod.fst).take k).any (fun q => decide (q.name = p.name)) || (decide (p.kind ≠ 3) || (List.range p.args.length).all fun n => agrE T.D f (under (L.map Prod.fst) p.name n))) := by
   rw [agrE, ← hLm, List.length_map]
   rfl
  have hLw : ∀ z ∈ L, Wf T.D z.1 := fun z hz => hwf z (hLs z hz).1
  have nilN : ∀ k, k < w1.heap.size → NotOwned [] k := fun k hk => .nil
  refine W.loop (G := Nat) (fun i => i ≤ L.length ∧ ∀ j z z0, j < i → L[j]? = some z → L[0]? = some z0 → kindE T.D z.1 = kindE T.D z0.1) (fun i => L.length - i)
   (fun i => [(1, true, .slice q1 L.length c1), (2, true, .pointer (some ⟨b0, 0, none⟩)), (16, true, .slice q1 L.length c1), (17, true, .int .i64 (L.length : Int)), (18, true, .int .i64 (i : Int))])
   (fun i => Cls [] [w1, w]) 0 ⟨Nat.zero_le _, fun j z z0 hj => by omega⟩ (by exact Sub.au) (fun w' hw' => hw') ?_
  rintro i ⟨hi, hall⟩
  simp only at hi hall ⊢
  apply W.sr
  apply obn; rfl; rfl; rfl; apply Bin.lss
  apply OL.nx
  apply W.seq
  (refine W.cnd (fun hlt => ?_) (fun hlt => ?_)) <;> (try (exfalso; first | omega | exact hlt trivial | contradiction))
  ·obtain ⟨a, u, hqa, hab, hu, hcell, hok⟩ := hA.get (show i < L.length by omega)
   obtain ⟨a0, u0, hqa0, hab0, hu0, hcell0, hok0⟩ := hA.get (show 0 < L.length by omega)
   have hab : a.block < w1.heap.size := hab
   rw [hqa] at hqa0
   obtain rfl := Option.some.inj hqa0
   have hcell : CellsAt w1 (a.add (i * 4)) [.int .i64 u.1.kind, .string u.1.name, .int .i64 u.1.var, .slice u.2.1 u.1.args.length u.2.2] := hcell
   have hcell0 : CellsAt w1 (a.add (0 * 4)) [.int .i64 u0.1.kind, .string u0.1.name, .int .i64 u0.1.var, .slice u0.2.1 u0.1.args.length u0.2.2] := hcell0
   rw [hqa]
   apply W.sk
   apply W.sb
   apply W.sr
   apply oop; rfl; apply Pev.idx; rfl; exact yes; rfl; exact yes; rfl; rfl; intro hcond; omega
   apply oop; rfl; apply Pev.load_keptA; rfl; exact yes; exact .head _; rfl; intro hcond; assumption; rfl; intro hcond; (rw [add_block]; assumption); intro hcond; exact NotOwned.au
   apply OL.alloc; rfl; rfl; exact CellsL.agg; (intro bk hbk; simp only [AllLe, and_true] at hbk)
   apply OL.storeB; rfl; rfl; exact CellsL.agg; rfl; rfl; rfl; exact Swap.au; exact Put.au
   apply OL.nx
   apply W.seq
   apply W.regd0; decide +kernel; kernel_rfl; decide +kernel; exact fun w hw => hw.drew
   apply qop; rfl; apply Pev.load_keptA; rfl; exact yes; exact .head _; rfl; intro hcond; assumption; rfl; intro hcond; assumption; intro hcond; exact NotOwned.au
   apply qop; rfl; apply Pev.load_blkA; rfl; exact yes; exact .head _; rfl; exact Take.au
   have hH2 : ∀ k, k < w1.heap.size → NotOwned [blk bk 50 [.int .i64 u.1.kind, .string u.1.name, .int .i64 u.1.var, .slice u.2.1 u.1.args.length u.2.2]] k := fun k hk => NotOwned.blk (by omega) .nil
   (((first | (with_reducible apply OL.op) | (with_reducible apply QL.op)); (exact Guard.au); rfl; rfl); (exact Pev.call (v := .int .i64 (kindE T.D u.1)) rfl (by exact Args.au) (fun _ w2 hw2 => (kind_calls T u.1 u.2 w2 (hT1.at hw2 (.head _) hH2)).mono (fun e w3 h => ⟨h.1, hw2.ext h.2⟩))))
   apply qop; rfl; apply Pev.load_keptA; rfl; exact yes; exact .head _; rfl; intro hcond; assumption; rfl; intro hcond; assumption; intro hcond; exact NotOwned.au
   apply qmv; rfl; rfl
   apply qop; rfl; apply Pev.idx; rfl; exact yes; rfl; exact yes; rfl; rfl; intro hcond; (simp only [Bool.and_eq_true, Bool.or_eq_true, Bool.not_eq_true', decide_eq_true_eq, decide_eq_false_iff_not] at *; omega)
   apply qop; rfl; apply Pev.load_keptA; rfl; exact yes; exact .head _; rfl; intro hcond; assumption; rfl; intro hcond; assumption; intro hcond; exact NotOwned.au
   (((first | (with_reducible apply OL.op) | (with_reducible apply QL.op)); (exact Guard.au); rfl; rfl); (exact Pev.call (v := .int .i64 (kindE T.D u0.1)) rfl (by exact Args.au) (fun _ w2 hw2 => (kind_calls T u0.1 u0.2 w2 (hT1.at hw2 (.head _) hH2)).mono (fun e w3 h => ⟨h.1, hw2.ext h.2⟩))))
   apply qbn; rfl; rfl; rfl; apply Bin.neq
   apply QL.nil
   with_reducible apply At.next
   refine W.cond rfl (fun hb => ?_) (fun hb => ?_)
   ·have hb : ¬ kindE T.D u.1 = kindE T.D u0.1 := by simpa using hb
    have hone : oneKind T.D (L.map Prod.fst) = false := by
     cases hL0 : L with
     | nil => rw [hL0] at hu0; cases hu0
     | cons x r =>
      rw [hL0] at hu0 hu
      simp only [List.getElem?_cons_zero, Option.some.injEq] at hu0
      subst hu0
      simp only [List.map_cons, oneKind]
      rw [List.all_eq_false]
      exact ⟨u.1, by rw [← List.map_cons]; exact List.mem_map_of_mem (List.mem_of_getElem? hu), by simpa using hb⟩
    rw [hag, hone, Bool.false_and]
    apply W.sr
    apply oas; rfl; rfl
    apply OL.nx
    refine W.rt ?_
    ((with_reducible apply At.fin1); rfl; rfl; intro w' hw')
    exact ⟨rfl, hw'.toExt (s := w) (.tail _ (.head _)) (fun k hk => hH2 k (by omega))⟩
   ·have hb : kindE T.D u.1 = kindE T.D u0.1 := by simpa using hb
    apply W.skip
    with_reducible apply At.in_normal
    with_reducible apply At.next
    apply W.reg
    apply obn; rfl; rfl; rfl; apply Bin.add_in; omega
    apply omv; rfl; rfl
    apply OL.nil
    refine At.again (i + 1) ⟨by omega, fun j z z0 hj hz hz0 => ?_⟩ (by omega) (by exact Sub.au) (fun w' hw' => hw'.thin (by exact Thin.au))
    by_cases hji : j < i
    ·exact hall j z z0 hji hz hz0
    ·obtain rfl : j = i := by omega
     rw [hu] at hz
     rw [hu0] at hz0
     rw [← Option.some.inj hz, ← Option.some.inj hz0]
     exact hb
  obtain rfl : i = L.length := by omega
  have hone : oneKind T.D (L.map Prod.fst) = true := by
   cases hL0 : L with
   | nil => rfl
   | cons x r =>
    simp only [List.map_cons, oneKind]
    rw [List.all_eq_true]
    intro q hq
    rw [← List.map_cons] at hq
    obtain ⟨z, hz, rfl⟩ := List.mem_map.1 hq
    obtain ⟨j, hj⟩ := List.getElem?_of_mem hz
    rw [← hL0] at hj
    simp only [decide_eq_true_eq]
    exact hall j z x (List.getElem?_eq_some_iff.1 hj).1 hj (by rw [hL0]; rfl)
  have kin_eq : ∀ z ∈ L, ∀ z2 ∈ L, kindE T.D z.1 = kindE T.D z2.1 := fun z hz z2 hz2 => by
   obtain ⟨j, hj⟩ := List.getElem?_of_mem hz
   obtain ⟨j2, hj2⟩ := List.getElem?_of_mem hz2
   obtain ⟨z0, hz0⟩ : ∃ z0, L[0]? = some z0 := ⟨_, List.getElem?_eq_getElem (by have := (List.getElem?_eq_some_iff.1 hj).1; omega)⟩
   rw [hall j z z0 (List.getElem?_eq_some_iff.1 hj).1 hj hz0, hall j2 z2 z0 (List.getElem?_eq_some_iff.1 hj2).1 hj2 hz0]
  rw [hone, Bool.true_and] at hag
  obtain ⟨F, hF⟩ : ∃ F : Nat → Bool, F = fun k => (match (L.map Prod.fst)[k]? with
   | none => true
   | some p => ((L.map Prod.fst).take k).any (fun q => decide (q.name = p.name)) || (decide (p.kind ≠ 3) || (List.range p.args.length).all fun n => agrE T.D f (under (L.map Prod.fst) p.name n))) := ⟨_, rfl⟩
  rw [← hF] at hag
  have hFu : ∀ k (u : Ty × PY), L[k]? = some u → F k = (((L.take k).map Prod.fst).any (fun q => decide (q.name = u.1.name)) || (decide (u.1.kind ≠ 3) || (List.range u.1.args.length).all fun n => agrE T.D f (under (L.map Prod.fst) u.1.name n))) := fun k u hu => by
   rw [hF]
   simp only [List.getElem?_map, hu, Option.map_some, List.map_take]
  refine W.xt ?_
  with_reducible apply At.next
  apply W.seq
  apply W.sr
  apply omv; rfl; rfl
  apply oop; rfl; apply Pev.len_slice; rfl; exact yes; rfl
  apply omv; rfl; rfl
  apply OL.nx
  apply W.block
  refine W.loop (G := Nat) (fun i => i ≤ L.length ∧ ∀ j, j < i → F j = true) (fun i => L.length - i)
   (fun i => [(1, true, .slice q1 L.length c1), (2, true, .pointer (some ⟨b0, 0, none⟩)), (32, true, .slice q1 L.length c1), (33, true, .int .i64 (L.length : Int)), (34, true, .int .i64 (i : Int))])
   (fun i => Cls [] [w1, w]) 0 ⟨Nat.zero_le _, fun j hj => by omega⟩ (by exact Sub.au) (fun w' hw' => hw') ?_
  rintro i ⟨hi, hdone⟩
  simp only at hi hdone ⊢
  apply W.sr
  apply obn; rfl; rfl; rfl; apply Bin.lss
  apply OL.nx
  apply W.seq
  (refine W.cnd (fun hlt => ?_) (fun hlt => ?_)) <;> (try (exfalso; first | omega | exact hlt trivial | contradiction))
  ·obtain ⟨a, u, hqa, hab, hu, hcell, hok⟩ := hA.get (show i < L.length by omega)
   have hab : a.block < w1.heap.size := hab
   have hcell : CellsAt w1 (a.add (i * 4)) [.int .i64 u.1.kind, .string u.1.name, .int .i64 u.1.var, .slice u.2.1 u.1.args.length u.2.2] := hcell
   rw [hqa]
   apply W.sk
   apply W.sb
   apply W.sr
   apply omv; rfl; rfl
   apply oop; rfl; apply Pev.idx; rfl; exact yes; rfl; exact yes; rfl; rfl; intro hcond; omega
   apply oop; rfl; apply Pev.load_keptA; rfl; exact yes; exact .head _; rfl; intro hcond; assumption; rfl; intro hcond; (rw [add_block]; assumption); intro hcond; exact NotOwned.au
   apply OL.alloc; rfl; rfl; exact CellsL.agg; (intro bk hbk; simp only [AllLe, and_true] at hbk)
   apply oas; rfl; rfl
   apply OL.storeB; rfl; rfl; exact CellsL.agg; rfl; rfl; rfl; exact Swap.au; exact Put.au
   apply OL.nx
   apply W.seq
   apply W.sr
   apply omv; rfl; rfl
   apply omv; rfl; rfl
   apply oop; rfl; apply Pev.slice_hi; rfl; exact yes; rfl; exact yes; rfl; rfl; intro hcond; omega
   apply oop; rfl; apply Pev.makeFunc; exact Args.au; exact Args.au
   have hti : (L.take i).length = i := by rw [List.length_take]; omega
   have hH2 : ∀ k, k < w1.heap.size → NotOwned [blk bk 50 [.int .i64 u.1.kind, .string u.1.name, .int .i64 u.1.var, .slice u.2.1 u.1.args.length u.2.2]] k := fun k hk => NotOwned.blk (by omega) .nil
   (((first | (with_reducible apply OL.op) | (with_reducible apply QL.op)); (exact Guard.au); rfl; rfl); (refine Pev.call (v := .bool (((L.take i).map Prod.fst).any fun q => decide (q.name = u.1.name))) (vs := [.slice (some a) i c1, .func (.func 72) ([] : List Value).toArray [Value.pointer (some ⟨bk, 0, none⟩)].toArray]) rfl (by exact Args.au) (fun _ w2 hw2 => ?_)))
   ·have hb : (blk bk 50 [.int .i64 u.1.kind, .string u.1.name, .int .i64 u.1.var, .slice u.2.1 u.1.args.length u.2.2]).holds w2 := hw2.item (.head _)
    have hlt := hw2.lt _ (.head _) bk rfl
    have hc := ContainsFunc_calls (some a) c1 (L.take i) 72 [] [.pointer (some ⟨bk, 0, none⟩)] (fun p => decide (p.name = u.1.name)) w2 (by omega) ((by rw [← hqa]; exact hA.take i : Arr tyR w1 (low w1) (L.take i) (some a)).at hw2 (.head _) hH2) rfl (fun s hs w3 h3 => agree1_calls s.1 s.2 bk _ _ _ u.1.name w3 ((blk bk 50 _).stab w2 w3 (fun k hk => h3.block k (by rw [show k = bk from hk]; exact hlt) id) hb))
    rw [hti] at hc
    exact hc.mono (fun e w3 h => ⟨h.1, hw2.ext h.2⟩)
   have hFi := hFu i u hu
   have hagain : F i = true → ∀ j, j < i + 1 → F j = true := fun h j hj => by
    by_cases hji : j < i
    ·exact hdone j hji
    ·rw [show j = i by omega]; exact h
   apply OL.nx
   refine W.cond rfl (fun hb => ?_) (fun hb => ?_)
   ·have hFt : F i = true := by rw [hFi, hb, Bool.true_or]
    refine W.xt ?_
    with_reducible apply At.next
    apply W.reg
    apply obn; rfl; rfl; rfl; apply Bin.add_in; omega
    apply omv; rfl; rfl
    apply OL.nil
    exact At.again (i + 1) ⟨by omega, hagain hFt⟩ (by omega) (by exact Sub.au) (fun w' hw' => hw'.thin (by exact Thin.au))
   have hb : (((L.take i).map Prod.fst).any fun q => decide (q.name = u.1.name)) = false := hb
   rw [hb, Bool.false_or] at hFi
   apply W.sk
   apply W.seq
   apply W.sr
   apply ofa; rfl; rfl; rfl
   apply old; rfl; rfl; exact .head _; rfl; rfl
   apply obn; rfl; rfl; rfl; apply Bin.neq
   apply OL.nx
   refine W.cond rfl (fun hb => ?_) (fun hb => ?_)
   ·have hk3 : u.1.kind ≠ 3 := by simpa using hb
    have hFt : F i = true := by rw [hFi, decide_eq_true hk3, Bool.true_or]
    refine W.xt ?_
    with_reducible apply At.next
    apply W.reg
    apply obn; rfl; rfl; rfl; apply Bin.add_in; omega
    apply omv; rfl; rfl
    apply OL.nil
    exact At.again (i + 1) ⟨by omega, hagain hFt⟩ (by omega) (by exact Sub.au) (fun w' hw' => hw'.thin (by exact Thin.au))
   have hk3 : u.1.kind = 3 := by simpa using hb
   rw [show decide (u.1.kind ≠ 3) = false by simp [hk3], Bool.false_or] at hFi
   apply W.sk
   apply W.sr
   apply ofa; rfl; rfl; rfl
   apply old; rfl; rfl; exact .head _; rfl; rfl
   apply oop; rfl; apply Pev.len_slice; rfl; exact yes; rfl
   apply omv; rfl; rfl
   apply OL.nx
   apply W.block
   revert bk
   intro b8 hb8 hH2
   have huw := hLw u (List.mem_of_getElem? hu)
   obtain ⟨d, c, hcon, hcm, _⟩ := huw.cons hk3
   have hargs : ∀ z ∈ L, z.1.name = u.1.name → z.1.args.length = u.1.args.length := fun z hz hn => by
    have hkz : kindE T.D z.1 = kindE T.D u.1 := kin_eq z hz u (List.mem_of_getElem? hu)
    have hzw := hLw z hz
    have hz3 : z.1.kind = 3 := by
     rcases hzw.kinds (hLs z hz).2 with hz2 | hz3
     ·unfold kindE at hkz
      rw [if_pos hz2, if_neg (by omega), if_pos hk3, hcon] at hkz
      simp only at hkz
      omega
     ·exact hz3
    obtain ⟨d', c', e1, e2, _⟩ := hzw.cons hz3
    rw [hn, hcon] at e1
    cases e1
    omega
   obtain ⟨_, _, _, hual, _⟩ := pat_kids hok
   refine W.loop (G := Nat) (fun n => n ≤ u.1.args.length ∧ ∀ j, j < n → agrE T.D f (under (L.map Prod.fst) u.1.name j) = true) (fun n => u.1.args.length - n)
    (fun n => [(1, true, .slice (some a) L.length c1), (2, true, .pointer (some ⟨b0, 0, none⟩)), (8, true, .pointer (some ⟨b8, 0, none⟩)), (32, true, .slice (some a) L.length c1), (33, true, .int .i64 (L.length : Int)), (34, true, .int .i64 (i : Int)), (49, true, .int .i64 (u.1.args.length : Int)), (50, true, .int .i64 (n : Int))])
    (fun n => Cls [blk b8 50 [.int .i64 u.1.kind, .string u.1.name, .int .i64 u.1.var, .slice u.2.1 u.1.args.length u.2.2]] [w1, w]) 0 ⟨Nat.zero_le _, fun j hj => by omega⟩ (by exact Sub.au) (fun w' hw' => hw') ?_
   rintro n ⟨hn1, hn2⟩
   simp only at hn1 hn2 ⊢
   apply W.sr
   apply obn; rfl; rfl; rfl; apply Bin.lss
   apply OL.nx
   apply W.seq
   (refine W.cnd (fun hltn => ?_) (fun hltn => ?_)) <;> (try (exfalso; first | omega | exact hltn trivial | contradiction))
   ·apply W.sk
    apply W.sb
    apply W.sr
    apply omv; rfl; rfl
    apply oas; rfl; rfl
    apply OL.nsr
    apply oas; rfl; rfl
    apply OL.nx
    apply W.seq
    apply W.sr
    apply omv; rfl; rfl
    apply oop; rfl; apply Pev.len_slice; rfl; exact yes; rfl
    apply omv; rfl; rfl
    apply OL.nx
    apply W.block
    refine W.loop (G := Nat × GT) (fun g => g.1 ≤ L.length ∧ g.2.ps.map Prod.fst = under ((L.take g.1).map Prod.fst) u.1.name n ∧ g.2.ps.length ≤ g.1 ∧ ∀ p ∈ g.2.ps, TyO w1 (low w1) p.1 p.2) (fun g => L.length - g.1)
     (fun g => [(1, true, .slice (some a) L.length c1), (2, true, .pointer (some ⟨b0, 0, none⟩)), (8, true, .pointer (some ⟨b8, 0, none⟩)), (32, true, .slice (some a) L.length c1), (33, true, .int .i64 (L.length : Int)), (34, true, .int .i64 (i : Int)), (49, true, .int .i64 (u.1.args.length : Int)), (50, true, .int .i64 (n : Int)), (9, true, .int .i64 (n : Int)), (10, true, .slice g.2.q g.2.ps.length g.2.c), (53, true, .slice (some a) L.length c1), (54, true, .int .i64 (L.length : Int)), (55, true, .int .i64 (g.1 : Int))])
     (fun g => Cls [row w1.heap.size g.2.O g.2.q g.2.ps.length g.2.c 50 4 (cat tyR.c g.2.ps), blk b8 50 [.int .i64 u.1.kind, .string u.1.name, .int .i64 u.1.var, .slice u.2.1 u.1.args.length u.2.2]] [w1, w]) (0, ⟨fun _ => False, none, 0, []⟩) ⟨Nat.zero_le _, rfl, Nat.le_refl _, fun p hp => by cases hp⟩ (by exact Sub.au) (fun w' hw' => hw'.row_nil w1.heap.size 50 4) ?_
    rintro ⟨j, O, q2, c2, bs⟩ ⟨hj, hbs, hbl, hbok⟩
    simp only at hj hbs hbl hbok ⊢
    apply W.sr
    apply obn; rfl; rfl; rfl; apply Bin.lss
    apply OL.nx
    apply W.seq
    (refine W.cnd (fun hltj => ?_) (fun hltj => ?_)) <;> (try (exfalso; first | omega | exact hltj trivial | contradiction))
    ·obtain ⟨aj, v, hqj, habj, hv, hcellj, hokj⟩ := hA.get (show j < L.length by omega)
     rw [hqa] at hqj
     obtain rfl := Option.some.inj hqj
     have hcellj : CellsAt w1 (a.add (j * 4)) [.int .i64 v.1.kind, .string v.1.name, .int .i64 v.1.var, .slice v.2.1 v.1.args.length v.2.2] := hcellj
     have hunder : under ((L.take (j + 1)).map Prod.fst) u.1.name n = under ((L.take j).map Prod.fst) u.1.name n ++ (if v.1.name = u.1.name then v.1.args[n]? else none).toList := by
      rw [List.take_add_one, hv, Option.toList_some, List.map_append]
      unfold under
      rw [List.filterMap_append]
      congr 1
      simp only [List.map_cons, List.map_nil, List.filterMap_cons, List.filterMap_nil, (hLs v (List.mem_of_getElem? hv)).2, true_and]
      split <;> rename_i hx <;> rw [hx] <;> rfl
     apply W.sk
     apply W.sb
     apply W.sr
     apply oop; rfl; apply Pev.idx; rfl; exact yes; rfl; exact yes; rfl; rfl; intro hcond; omega
     apply oop; rfl; apply Pev.load_keptA; rfl; exact yes; exact .head _; rfl; intro hcond; assumption; rfl; intro hcond; (rw [add_block]; assumption); intro hcond; exact NotOwned.au
     apply OL.alloc; rfl; rfl; exact CellsL.agg; (intro bk hbk; simp only [AllLe, and_true] at hbk)
     apply OL.storeB; rfl; rfl; exact CellsL.agg; rfl; rfl; rfl; exact Swap.au; exact Put.au
     apply OL.nsr
     apply ofa; rfl; rfl; rfl
     apply old; rfl; rfl; exact .head _; rfl; rfl
     apply ofa; rfl; rfl; rfl
     apply old; rfl; rfl; exact .tail _ (.tail _ (.head _)); rfl; rfl
     apply obn; rfl; rfl; rfl; apply Bin.str_eql
     apply OL.nx
     refine W.cond rfl (fun hb => ?_) (fun hb => ?_)
     ·have hb : v.1.name = u.1.name := of_decide_eq_true hb
      have hvl := hargs v (List.mem_of_getElem? hv) hb
      obtain ⟨pz, hpz, hpza, hpzl, _⟩ := pat_kids hokj
      have hpzl2 : pz.length = v.1.args.length := by rw [← hpz, List.length_map]
      obtain ⟨az, z, hqz, habz, hz, hcellz, hokz⟩ := hpza.get (show n < pz.length by omega)
      have habz : az.block < w1.heap.size := habz
      have hcellz : CellsAt w1 (az.add (n * 4)) [.int .i64 z.1.kind, .string z.1.name, .int .i64 z.1.var, .slice z.2.1 z.1.args.length z.2.2] := hcellz
      rw [if_pos hb, show v.1.args[n]? = some z.1 by rw [← hpz, List.getElem?_map, hz]; rfl, Option.toList_some, ← hbs] at hunder
      have e1 : bs.length + 1 = (bs ++ [z]).length := by simp
      have e2 : cat tyR.c bs ++ [Value.int .i64 z.1.kind, .string z.1.name, .int .i64 z.1.var, .slice z.2.1 z.1.args.length z.2.2] = cat tyR.c (bs ++ [z]) := by rw [cat_append]; rfl
      rw [hqz]
      apply W.reg
      apply omv; rfl; rfl
      apply ofa; rfl; rfl; rfl
      apply old; rfl; rfl; exact .head _; rfl; rfl
      apply omv; rfl; rfl
      apply oop; rfl; apply Pev.idx; rfl; exact yes; rfl; exact yes; rfl; rfl; intro hcond; omega
      apply oop; rfl; apply Pev.load_keptA; rfl; exact yes; exact .head _; rfl; intro hcond; assumption; rfl; intro hcond; (rw [add_block]; assumption); intro hcond; exact NotOwned.au
      apply OL.buildSlice; rfl; rfl; rfl; exact Elems.au; rfl; rfl; (intro bk hbk; simp only [AllLe, and_true] at hbk)
      apply OL.append; rfl; rfl; rfl; rfl; exact Hole.au; exact .head _; exact Take.au; rfl; rfl; exact ⟨_, .head _, Nat.le_refl _⟩; omega; intro O1 g1 cap1
      apply oas; rfl; rfl
      apply OL.nil
      with_reducible apply At.in_normal
      with_reducible apply At.next
      apply W.reg
      apply obn; rfl; rfl; rfl; apply Bin.add_in; omega
      apply omv; rfl; rfl
      apply OL.nil
      rw [e1, e2]
      exact At.again (j + 1, ⟨O1, some ⟨g1, 0, none⟩, cap1, bs ++ [z]⟩) ⟨by simp only; omega, by simp only [hunder]; simp, by simp only [← e1]; omega, fun p hp => (List.mem_append.1 hp).elim (hbok p) (fun hp => by rw [List.mem_singleton] at hp; rw [hp]; exact hokz)⟩ (by simp only; omega) (by exact Sub.au) (fun w' hw' => hw'.thin (by exact Thin.au))
     ·have hb : ¬ v.1.name = u.1.name := of_decide_eq_false hb
      rw [if_neg hb, Option.toList_none, List.append_nil] at hunder
      apply W.skip
      with_reducible apply At.in_normal
      with_reducible apply At.next
      apply W.reg
      apply obn; rfl; rfl; rfl; apply Bin.add_in; omega
      apply omv; rfl; rfl
      apply OL.nil
      exact At.again (j + 1, ⟨O, q2, c2, bs⟩) ⟨by simp only; omega, by simp only [hunder, hbs], by simp only; omega, hbok⟩ (by simp only; omega) (by exact Sub.au) (fun w' hw' => hw'.thin (by exact Thin.au))
    ·obtain rfl : j = L.length := by omega
     rw [List.take_length] at hbs
     have hsz : Ty.szs (bs.map Prod.fst) < f := by
      have g1 : u.1 ∈ L.map Prod.fst := List.mem_map_of_mem (List.mem_of_getElem? hu)
      have g2 := under_lt g1 (hLs u (List.mem_of_getElem? hu)).2 (n := n) (by omega)
      have g3 := nf_sz (ps.map Prod.fst)
      rw [hbs]
      rw [← hLm] at g3
      omega
     have hwb : ∀ p ∈ bs, Wf T.D p.1 := fun p hp => by
      have g1 : p.1 ∈ under (L.map Prod.fst) u.1.name n := by rw [← hbs]; exact List.mem_map_of_mem hp
      obtain ⟨z, k1, k2, k3, k4⟩ := under_mem.1 g1
      obtain ⟨zz, k5, rfl⟩ := List.mem_map.1 k1
      have hzw := hLw zz k5
      have hz3 : zz.1.kind = 3 := by
       rcases hzw.kinds k2 with hz2 | hz3
       ·cases hzw with
        | fr h => rw [k2] at h; cases h
        | int _ _ => 
         exfalso
         have := hargs zz k5 k3
         have g4 := kin_eq zz k5 u (List.mem_of_getElem? hu)
         unfold kindE at g4
         rw [if_pos hz2, if_neg (by omega), if_pos hk3, hcon] at g4
         simp only at g4
         omega
        | con h _ _ _ => omega
       ·exact hz3
      obtain ⟨_, _, _, _, k7⟩ := hzw.cons hz3
      exact k7 p.1 (List.mem_of_getElem? k4)
     have hH3 : ∀ k, k < w1.heap.size → NotOwned [row w1.heap.size O q2 bs.length c2 50 4 (cat tyR.c bs), blk b8 50 [.int .i64 u.1.kind, .string u.1.name, .int .i64 u.1.var, .slice u.2.1 u.1.args.length u.2.2]] k := fun k hk => NotOwned.row (by omega) (hH2 k hk)
     refine W.xt ?_
     with_reducible apply At.next
     apply W.sr
     apply oop; rfl; apply Pev.load_keptA; rfl; exact yes; exact .head _; rfl; intro hcond; assumption; rfl; intro hcond; assumption; intro hcond; exact NotOwned.au
     apply omv; rfl; rfl
     (((first | (with_reducible apply OL.op) | (with_reducible apply QL.op)); (exact Guard.au); rfl; rfl); (exact Pev.call (v := .bool (agrE T.D f (bs.map Prod.fst))) rfl (by exact Args.au) (fun _ w2 hw2 => (ih q2 c2 bs w2 hsz (by omega) (hT1.at hw2 (.head _) hH3) (Arr.of_row (hw2.item (.head _)) hbok (hw2.toExt (s := w1) (.head _) hH3)) hwb).mono (fun e w3 h => ⟨h.1, hw2.ext h.2⟩))))
     apply oop; rfl; apply Pev.not; rfl; exact yes
     apply OL.nx
     rw [hbs]
     refine W.cond rfl (fun hb => ?_) (fun hb => ?_)
     ·have hb : agrE T.D f (under (L.map Prod.fst) u.1.name n) = false := by simpa using hb
      have hFf : F i = false := by rw [hFi, ra_false (show n < u.1.args.length by omega) hb]
      rw [hag, ra_false (show i < L.length by omega) hFf]
      apply W.sr
      apply oas; rfl; rfl
      apply OL.nx
      refine W.rt ?_
      ((with_reducible apply At.fin1); rfl; rfl; intro w' hw')
      exact ⟨rfl, hw'.toExt (s := w) (.tail _ (.head _)) (fun k hk => hH3 k (by omega))⟩
     ·have hb : agrE T.D f (under (L.map Prod.fst) u.1.name n) = true := by simpa using hb
      apply W.skip
      with_reducible apply At.in_normal
      with_reducible apply At.next
      apply W.reg
      apply obn; rfl; rfl; rfl; apply Bin.add_in; omega
      apply omv; rfl; rfl
      apply OL.nil
      refine At.again (n + 1) ⟨by omega, fun j hj => ?_⟩ (by omega) (by exact Sub.au) (fun w' hw' => hw'.thin (.row (by simp only [AllLe, and_true]; omega) Thin.same))
      by_cases hjn : j < n
      ·exact hn2 j hjn
      ·rw [show j = n by omega]; exact hb
   ·have hFt : F i = true := by rw [hFi, ra_true (fun k hk => hn2 k (by omega))]
    refine W.xt ?_
    with_reducible apply At.in_normal
    with_reducible apply At.next
    apply W.reg
    apply obn; rfl; rfl; rfl; apply Bin.add_in; omega
    apply omv; rfl; rfl
    apply OL.nil
    exact At.again (i + 1) ⟨by omega, hagain hFt⟩ (by omega) (by exact Sub.au) (fun w' hw' => hw'.thin (by exact Thin.au))
  ·rw [hag, ra_true (fun k hk => hdone k (by omega))]
   refine W.xt ?_
   with_reducible apply At.next
   apply W.sr
   apply oas; rfl; rfl
   apply OL.nx
   apply W.ret
   ((with_reducible apply At.fin1); rfl; rfl; intro w' hw')
   exact ⟨rfl, by (exact hw'.fr)⟩
end Go.Proofs.Ytleggdmhihcafaa.pt

/- The walk of patterns.build. Conditions: none. -/
namespace Go.Pt
open Go.Eng Go.RowKit
def conE (k : Nat) : Nat → List Co → MP
 | _, [] => []
 | i, c :: r => (c.name, .agg #[.int .i64 (k : Int), .int .i64 (i : Int), .int .i64 (c.many : Int)]) :: conE k (i + 1) r
def datE : Nat → List Da → MP
 | _, [] => []
 | k, x :: D => conE k 0 x.cons ++ datE (k + 1) D
theorem mget_app (a b : MP) (nm : ByteArray) : mget (a ++ b) nm = (mget a nm).or (mget b nm) := by
 induction a with
 | nil => rfl
 | cons p r ih =>
  rw [List.cons_append, mget, mget]
  split
  ·rfl
  ·exact ih
theorem mget_none {a : MP} {nm : ByteArray} : mget a nm = none ↔ nm ∉ a.map Prod.fst := by
 induction a with
 | nil => simp [mget]
 | cons p r ih =>
  rw [mget, List.map_cons, List.mem_cons]
  by_cases h : p.1 = nm
  ·simp [h]
  ·rw [if_neg h, ih]
   constructor
   ·rintro h1 (h2 | h2)
    ·exact h h2.symm
    ·exact h1 h2
   ·exact fun h1 h2 => h1 (.inr h2)
theorem conE_names (k : Nat) : ∀ (i : Nat) (cs : List Co), (conE k i cs).map Prod.fst = cs.map (·.name)
 | _, [] => rfl
 | i, c :: r => by rw [conE, List.map_cons, List.map_cons, conE_names k (i + 1) r]
theorem datE_names : ∀ (k : Nat) (D : List Da), (datE k D).map Prod.fst = flatN D
 | _, [] => rfl
 | k, x :: D => by
  rw [datE, List.map_append, conE_names, datE_names (k + 1) D]
  rfl
theorem conE_snoc (k : Nat) (c : Co) : ∀ (i : Nat) (cs : List Co), conE k i (cs ++ [c]) = conE k i cs ++ [(c.name, .agg #[.int .i64 (k : Int), .int .i64 ((i + cs.length : Nat) : Int), .int .i64 (c.many : Int)])]
 | i, [] => rfl
 | i, x :: r => by
  rw [List.cons_append, conE, conE, conE_snoc k c (i + 1) r, List.cons_append, List.length_cons, show i + 1 + r.length = i + (r.length + 1) by omega]
theorem datE_snoc (x : Da) : ∀ (k : Nat) (D : List Da), datE k (D ++ [x]) = datE k D ++ conE (k + D.length) 0 x.cons
 | k, [] => by simp [datE]
 | k, y :: D => by
  rw [List.cons_append, datE, datE, datE_snoc x (k + 1) D, List.append_assoc, List.length_cons, show k + 1 + D.length = k + (D.length + 1) by omega]
theorem conE_get (k : Nat) (nm : ByteArray) : ∀ (i : Nat) (cs : List Co), (match conIn cs nm with
 | none => mget (conE k i cs) nm = none
 | some c => ∃ j : Int, mget (conE k i cs) nm = some (.agg #[.int .i64 (k : Int), .int .i64 j, .int .i64 (c.many : Int)]))
 | _, [] => rfl
 | i, c :: r => by
  have ih := conE_get k nm (i + 1) r
  unfold conIn at ih ⊢
  rw [List.find?_cons]
  by_cases h : c.name = nm
  ·rw [decide_eq_true h]
   exact ⟨i, by rw [conE, mget, if_pos h]⟩
  ·rw [decide_eq_false h, conE, mget, if_neg h]
   exact ih
theorem datE_get (nm : ByteArray) : ∀ (k : Nat) (D : List Da), (match conAt D nm with
 | none => mget (datE k D) nm = none
 | some (d, c) => ∃ j : Int, mget (datE k D) nm = some (.agg #[.int .i64 ((k + d : Nat) : Int), .int .i64 j, .int .i64 (c.many : Int)]))
 | _, [] => rfl
 | k, x :: D => by
  have ih := datE_get nm (k + 1) D
  have h1 := conE_get k nm 0 x.cons
  unfold conAt
  rw [datE, mget_app]
  cases hc : conIn x.cons nm with
  | some c =>
   rw [hc] at h1
   obtain ⟨j, h1⟩ := h1
   exact ⟨j, by rw [h1]; rfl⟩
  | none =>
   rw [hc] at h1
   rw [h1]
   cases hd : conAt D nm with
   | none => rw [hd] at ih; exact ih
   | some z =>
    obtain ⟨d, c⟩ := z
    rw [hd] at ih
    obtain ⟨j, ih⟩ := ih
    exact ⟨j, by rw [show k + (d + 1) = k + 1 + d by omega]; exact ih⟩
theorem datE_tab (D : List Da) : TabM D (datE 0 D) := fun nm => by
 have h := datE_get nm 0 D
 cases hc : conAt D nm with
 | none => rw [hc] at h; exact h
 | some z =>
  obtain ⟨d, c⟩ := z
  rw [hc] at h
  obtain ⟨j, h⟩ := h
  exact ⟨j, by rw [h, Nat.zero_add]⟩
theorem conE_agg (k : Nat) {nm : ByteArray} {z : Value} : ∀ (i : Nat) (cs : List Co), mget (conE k i cs) nm = some z → ∃ z1 z2 z3 : Int, z = .agg #[.int .i64 z1, .int .i64 z2, .int .i64 z3]
 | _, [], h => by cases h
 | i, c :: r, h => by
  rw [conE, mget] at h
  split at h
  ·exact ⟨_, _, _, (Option.some.inj h).symm⟩
  ·exact conE_agg k (i + 1) r h
theorem datE_agg {nm : ByteArray} {z : Value} : ∀ (k : Nat) (D : List Da), mget (datE k D) nm = some z → ∃ z1 z2 z3 : Int, z = .agg #[.int .i64 z1, .int .i64 z2, .int .i64 z3]
 | _, [], h => by cases h
 | k, x :: D, h => by
  rw [datE, mget_app] at h
  cases hc : mget (conE k 0 x.cons) nm with
  | some y =>
   rw [hc] at h
   cases h
   exact conE_agg k 0 x.cons hc
  | none =>
   rw [hc] at h
   exact datE_agg (k + 1) D h
theorem aggM {M : MP} {D : List Da} {k : Nat} {cs : List Co} (hM : M = datE 0 D ++ conE k 0 cs) {nm : ByteArray} {z : Value} (h : mget M nm = some z) : ∃ z1 z2 z3 : Int, z = .agg #[.int .i64 z1, .int .i64 z2, .int .i64 z3] := by
 rw [hM, mget_app] at h
 cases hc : mget (datE 0 D) nm with
 | some y =>
  rw [hc] at h
  cases h
  exact datE_agg 0 D hc
 | none =>
  rw [hc] at h
  exact conE_agg k 0 cs h
end Go.Pt
namespace Go.Proofs.Ytleggdmhihcafaa.pt
open Go.RowKit Go.Eng Go.Pt
set_option maxRecDepth 100000
theorem build_calls (q : Option Addr) (cap : Nat) (ds : List (Da × DY)) (w : World) (hlen : ds.length ≤ 9223372036854775807) (h : Arr datR w (low w) ds q) :
  Calls Try.prog 34 [.slice q ds.length cap].toArray w fun e w' => Ext w w' ∧ if (flatN (ds.map Prod.fst)).Nodup then ∃ T : TT, T.ds = ds ∧ T.q = q ∧ w.heap.size ≤ T.b ∧ T.ok w' ∧ e = .returned (.tuple #[T.v, .int .i64 0]) else e = .returned (.tuple #[.agg #[.slice none 0 0, .map none], .int .i64 7]) := by
 refine enter Try.func34 rfl Try.ntmps34 rfl (Cls.start w) ?_
 obtain ⟨D, hD⟩ : ∃ D, ds.map Prod.fst = D := ⟨_, rfl⟩
 rw [hD]
 (simp only [argEnv, Nat.zero_add, Nat.reduceAdd])
 apply W.sr
 apply OL.alloc; rfl; rfl; exact CellsL.agg; (intro bk hbk; simp only [AllLe, and_true] at hbk)
 apply oas; rfl; rfl
 apply OL.nsr
 apply omv; rfl; rfl
 apply OL.makeMap; rfl; rfl; (intro bk hbk; simp only [AllLe, and_true] at hbk)
 apply oop; rfl; apply Pev.build; rfl; exact CellsL.agg; rfl; exact Fill.au; rfl
 apply OL.alloc; rfl; rfl; exact CellsL.agg; (intro bk hbk; simp only [AllLe, and_true] at hbk)
 apply OL.storeB; rfl; rfl; exact CellsL.agg; rfl; rfl; rfl; exact Swap.au; exact Put.au
 apply OL.nx
 apply W.seq
 apply W.sr
 apply omv; rfl; rfl
 apply oop; rfl; apply Pev.len_slice; rfl; exact yes; rfl
 apply omv; rfl; rfl
 apply OL.nx
 apply W.block
 rename_i b2 hb2 bm hbm
 revert bk
 intro b4 hb4
 obtain ⟨f0, hf0⟩ : ∃ f0 : ByteArray → Value, f0 = fun nm => .agg #[.slice none 0 0, .map none] := ⟨_, rfl⟩
 refine W.loop (G := Nat) (fun k => k ≤ ds.length ∧ (flatN (D.take k)).Nodup) (fun k => ds.length - k)
  (fun k => [(2, true, .pointer (some ⟨b2, 0, none⟩)), (4, true, .pointer (some ⟨b4, 0, none⟩)), (14, true, .slice q ds.length cap), (15, true, .int .i64 (ds.length : Int)), (16, true, .int .i64 (k : Int))])
  (fun k => Cls [blk b4 55 [.slice q ds.length cap, .map (some bm)], mapS bm (datE 0 (D.take k)), blk b2 55 [.slice none 0 0, .map none]] [w]) 0 ⟨Nat.zero_le _, .nil⟩ (by exact Sub.au) (fun w' hw' => hw') ?_
 rintro k ⟨hk, hnd⟩
 simp only at hk hnd ⊢
 apply W.sr
 apply obn; rfl; rfl; rfl; apply Bin.lss
 apply OL.nx
 apply W.seq
 (refine W.cnd (fun hlt => ?_) (fun hlt => ?_)) <;> (try (exfalso; first | omega | exact hlt trivial | contradiction))
 ·obtain ⟨a, u, hqa, hab, hu, hcell, hok⟩ := h.get (show k < ds.length by omega)
  obtain ⟨⟨cs, hcs, hcsa⟩, hcl⟩ := hok
  have hcsl : cs.length = u.1.cons.length := by rw [← hcs, List.length_map]
  have hab : a.block < w.heap.size := hab
  have hcell : CellsAt w (a.add (k * 3)) [.string u.2.name, .int .i64 u.2.params, .slice u.2.q u.1.cons.length u.2.cap] := hcell
  have hDk : D[k]? = some u.1 := by rw [← hD, List.getElem?_map, hu]; rfl
  have hlenD : D.length = ds.length := by rw [← hD, List.length_map]
  have htk : (D.take k).length = k := by rw [List.length_take]; omega
  have hDt : D.take (k + 1) = D.take k ++ [u.1] := by rw [List.take_add_one, hDk]; rfl
  rw [hqa]
  apply W.sk
  apply W.sb
  apply W.sr
  apply omv; rfl; rfl
  apply oop; rfl; apply Pev.idx; rfl; exact yes; rfl; exact yes; rfl; rfl; intro hcond; omega
  apply oop; rfl; apply Pev.load_keptA; rfl; exact yes; exact .head _; rfl; intro hcond; assumption; rfl; intro hcond; (rw [add_block]; assumption); intro hcond; exact NotOwned.au
  apply OL.alloc; rfl; rfl; exact CellsL.agg; (intro bk hbk; simp only [AllLe, and_true] at hbk)
  apply oas; rfl; rfl
  apply OL.storeB; rfl; rfl; exact CellsL.agg; rfl; rfl; rfl; exact Swap.au; exact Put.au
  apply OL.nsr
  apply ofa; rfl; rfl; rfl
  apply old; rfl; rfl; exact .head _; rfl; rfl
  apply oop; rfl; apply Pev.len_slice; rfl; exact yes; rfl
  apply omv; rfl; rfl
  apply OL.nx
  apply W.block
  revert bk
  intro b6 hb6
  refine W.loop (G := Nat) (fun j => j ≤ cs.length ∧ (flatN (D.take k) ++ ((cs.map Prod.fst).take j).map (·.name)).Nodup) (fun j => cs.length - j)
   (fun j => [(2, true, .pointer (some ⟨b2, 0, none⟩)), (4, true, .pointer (some ⟨b4, 0, none⟩)), (5, true, .int .i64 (k : Int)), (14, true, .slice (some a) ds.length cap), (15, true, .int .i64 (ds.length : Int)), (16, true, .int .i64 (k : Int)), (22, true, .slice u.2.q u.1.cons.length u.2.cap), (23, true, .int .i64 (u.1.cons.length : Int)), (24, true, .int .i64 (j : Int))])
   (fun j => Cls [blk b4 55 [.slice (some a) ds.length cap, .map (some bm)], mapS bm (datE 0 (D.take k) ++ conE k 0 ((cs.map Prod.fst).take j)), blk b2 55 [.slice none 0 0, .map none]] [w]) 0 ⟨Nat.zero_le _, by rw [List.take_zero, List.map_nil, List.append_nil]; exact hnd⟩ (by exact Sub.au) (fun w' hw' => by rw [List.take_zero, conE, List.append_nil]; exact hw'.thin (by exact Thin.au)) ?_
  rintro j ⟨hj, hnd2⟩
  simp only at hj hnd2 ⊢
  apply W.sr
  apply obn; rfl; rfl; rfl; apply Bin.lss
  apply OL.nx
  apply W.seq
  (refine W.cnd (fun hltj => ?_) (fun hltj => ?_)) <;> (try (exfalso; first | omega | exact hltj trivial | contradiction))
  ·obtain ⟨ac, v, hqc, habc, hv, hcellc, hokc⟩ := hcsa.get (show j < cs.length by omega)
   have habc : ac.block < w.heap.size := habc
   have hcellc : CellsAt w (ac.add (j * 2)) [.string v.1.name, .slice v.2.1 v.1.many v.2.2] := hcellc
   have hokc : v.1.many * 56 ≤ 140737488355328 := hokc
   have hvc : (cs.map Prod.fst)[j]? = some v.1 := by rw [List.getElem?_map, hv]; rfl
   have htj : ((cs.map Prod.fst).take (j + 1)) = (cs.map Prod.fst).take j ++ [v.1] := by rw [List.take_add_one, hvc]; rfl
   have htl : ((cs.map Prod.fst).take j).length = j := by rw [List.length_take, List.length_map]; omega
   rw [hqc]
   obtain ⟨M, hM⟩ : ∃ M : MP, M = datE 0 (D.take k) ++ conE k 0 ((cs.map Prod.fst).take j) := ⟨_, rfl⟩
   have hMn : M.map Prod.fst = flatN (D.take k) ++ ((cs.map Prod.fst).take j).map (·.name) := by rw [hM, List.map_append, datE_names, conE_names]
   have hpre : (M.map Prod.fst ++ [v.1.name]).Sublist (flatN D) := by
    have e1 : D = D.take k ++ u.1 :: D.drop (k + 1) := by
     rw [List.getElem?_eq_some_iff] at hDk
     obtain ⟨e2, e3⟩ := hDk
     rw [← e3, List.getElem_cons_drop, List.take_append_drop]
    have e4 : u.1.cons = (cs.map Prod.fst).take j ++ v.1 :: (cs.map Prod.fst).drop (j + 1) := by
     rw [List.getElem?_eq_some_iff] at hvc
     obtain ⟨e2, e3⟩ := hvc
     rw [← e3, List.getElem_cons_drop, List.take_append_drop, hcs]
    have e5 : flatN D = flatN (D.take k) ++ ((((cs.map Prod.fst).take j).map (·.name) ++ [v.1.name]) ++ (((cs.map Prod.fst).drop (j + 1)).map (·.name) ++ flatN (D.drop (k + 1)))) := by
     conv => lhs; rw [e1]
     unfold flatN
     rw [List.flatMap_append, List.flatMap_cons, e4]
     simp
    rw [hMn, e5, List.append_assoc]
    exact (List.Sublist.refl _).append (List.sublist_append_left _ _)
   rw [← hMn] at hnd2
   rw [← hM]
   apply W.sk
   apply W.sb
   apply W.sr
   apply omv; rfl; rfl
   apply oop; rfl; apply Pev.idx; rfl; exact yes; rfl; exact yes; rfl; rfl; intro hcond; omega
   apply oop; rfl; apply Pev.load_keptA; rfl; exact yes; exact .head _; rfl; intro hcond; assumption; rfl; intro hcond; (rw [add_block]; assumption); intro hcond; exact NotOwned.au
   apply OL.alloc; rfl; rfl; exact CellsL.agg; (intro bk hbk; simp only [AllLe, and_true] at hbk)
   apply oas; rfl; rfl
   apply OL.storeB; rfl; rfl; exact CellsL.agg; rfl; rfl; rfl; exact Swap.au; exact Put.au
   apply OL.nx
   apply W.seq
   apply W.sr
   apply ofa; rfl; rfl; rfl
   apply old; rfl; rfl; exact .tail _ (.head _); rfl; rfl
   apply ofa; rfl; rfl; rfl
   apply old; rfl; rfl; exact .head _; rfl; rfl
   cases hg : mget M v.1.name with
   | some z =>
    have hnn : ¬ (flatN D).Nodup := fun hn => by
     have h1 := List.Nodup.sublist hpre hn
     rw [List.nodup_append] at h1
     have h2 : v.1.name ∈ M.map Prod.fst := by
      refine Classical.byContradiction fun h3 => ?_
      rw [mget_none.2 h3] at hg
      cases hg
     exact h1.2.2 _ h2 _ (.head _) rfl
    obtain ⟨z1, z2, z3, hz⟩ : ∃ z1 z2 z3 : Int, z = .agg #[.int .i64 z1, .int .i64 z2, .int .i64 z3] := aggM hM hg
    rw [hz] at hg
    (((first | (with_reducible apply OL.op) | (with_reducible apply QL.op)); (exact Guard.au); rfl; rfl); (refine Pev.conv (Pev.lookup2_h (m := M) (zv := .agg #[.int .i64 0, .int .i64 0, .int .i64 0]) rfl (by (first | exact fun _ => rfl | exact fun h => h | (intro h; simp_all; done))) rfl (by (first | exact fun _ => rfl | exact fun h => h | (intro h; simp_all; done))) rfl rfl (fun w2 hw2 => hw2.item (.tail _ (.tail _ (.head _))))) (v' := .tuple #[.agg #[.int .i64 z1, .int .i64 z2, .int .i64 z3], .bool true]) (by rw [hg]; rfl)))
    apply omv; rfl; rfl
    apply oex; rfl; rfl; rfl
    apply oex; rfl; rfl; rfl
    apply OL.alloc; rfl; rfl; exact CellsL.agg; (intro bk hbk; simp only [AllLe, and_true] at hbk)
    apply OL.storeB; rfl; rfl; exact CellsL.agg; rfl; rfl; rfl; exact Swap.au; exact Put.au
    apply oas; rfl; rfl
    apply OL.nsr
    apply omv; rfl; rfl
    apply OL.nx
    refine W.cond rfl (fun _ => ?_) (fun hb => by cases hb)
    apply W.sr
    apply oop; rfl; apply Pev.build; rfl; exact CellsL.agg; rfl; exact Fill.au; rfl
    apply OL.storeB; rfl; rfl; exact CellsL.agg; rfl; rfl; rfl; exact Swap.au; exact Put.au
    apply oas; rfl; rfl
    apply OL.nx
    refine W.rt ?_
    refine At.finC1 rfl rfl rfl (.tail _ (.tail _ (.tail _ (.tail _ (.head _))))) rfl rfl (fun w' hw' => ?_)
    rw [if_neg hnn]
    exact ⟨hw'.toExt (.head _) (fun k hk => NotOwned.blk (by omega) (NotOwned.blk (by omega) (NotOwned.blk (by omega) (NotOwned.mapS (by omega) (NotOwned.blk (by omega) .nil))))), rfl⟩
   | none =>
    (((first | (with_reducible apply OL.op) | (with_reducible apply QL.op)); (exact Guard.au); rfl; rfl); (refine Pev.conv (Pev.lookup2_h (m := M) (zv := .agg #[.int .i64 0, .int .i64 0, .int .i64 0]) rfl (by (first | exact fun _ => rfl | exact fun h => h | (intro h; simp_all; done))) rfl (by (first | exact fun _ => rfl | exact fun h => h | (intro h; simp_all; done))) rfl rfl (fun w2 hw2 => hw2.item (.tail _ (.tail _ (.head _))))) (v' := .tuple #[.agg #[.int .i64 0, .int .i64 0, .int .i64 0], .bool false]) (by rw [hg]; rfl)))
    apply omv; rfl; rfl
    apply oex; rfl; rfl; rfl
    apply oex; rfl; rfl; rfl
    apply OL.alloc; rfl; rfl; exact CellsL.agg; (intro bk hbk; simp only [AllLe, and_true] at hbk)
    apply OL.storeB; rfl; rfl; exact CellsL.agg; rfl; rfl; rfl; exact Swap.au; exact Put.au
    apply oas; rfl; rfl
    apply OL.nsr
    apply omv; rfl; rfl
    apply OL.nx
    refine W.cond rfl (fun hb => by cases hb) (fun _ => ?_)
    apply W.sk
    apply W.reg
    apply ofa; rfl; rfl; rfl
    apply old; rfl; rfl; exact .tail _ (.tail _ (.head _)); rfl; rfl
    apply ofa; rfl; rfl; rfl
    apply old; rfl; rfl; exact .tail _ (.head _); rfl; rfl
    apply omv; rfl; rfl
    apply omv; rfl; rfl
    apply ofa; rfl; rfl; rfl
    apply old; rfl; rfl; exact .tail _ (.head _); rfl; rfl
    apply oop; rfl; apply Pev.len_slice; rfl; exact yes; rfl
    apply oop; rfl; apply Pev.build; rfl; exact CellsL.agg; rfl; exact Fill.au; rfl
    apply OL.mapPut; rfl; rfl; rfl; rfl; exact Hole.au; assumption
    apply OL.nil
    with_reducible apply At.in_normal
    with_reducible apply At.next
    apply W.reg
    apply obn; rfl; rfl; rfl; apply Bin.add_in; omega
    apply omv; rfl; rfl
    apply OL.nil
    have hnd3 : (flatN (D.take k) ++ ((cs.map Prod.fst).take (j + 1)).map (·.name)).Nodup := by
     rw [htj, List.map_append, ← List.append_assoc, List.nodup_append, ← hMn]
     refine ⟨hnd2, by simp, fun a ha b hb => ?_⟩
     rw [List.map_singleton, List.mem_singleton] at hb
     rw [hb]
     rintro rfl
     exact mget_none.1 hg ha
    refine At.again (j + 1) ⟨by omega, hnd3⟩ (by omega) (by exact Sub.au) (fun w' hw' => ?_)
    rw [htj, conE_snoc, ← List.append_assoc, ← hM, htl, Nat.zero_add]
    exact hw'.thin (by exact Thin.au)
  ·obtain rfl : j = cs.length := by omega
   rw [show (cs.map Prod.fst).take cs.length = cs.map Prod.fst from List.take_of_length_le (by rw [List.length_map]; exact Nat.le_refl _)] at hnd2 ⊢
   refine W.xt ?_
   with_reducible apply At.in_normal
   with_reducible apply At.next
   apply W.reg
   apply obn; rfl; rfl; rfl; apply Bin.add_in; omega
   apply omv; rfl; rfl
   apply OL.nil
   refine At.again (k + 1) ⟨by omega, ?_⟩ (by omega) (by exact Sub.au) (fun w' hw' => ?_)
   ·rw [hDt, flatN, List.flatMap_append]
    have e9 : [u.1].flatMap (fun d => d.cons.map (·.name)) = (cs.map Prod.fst).map (·.name) := by rw [hcs]; simp
    rw [e9]
    exact hnd2
   ·rw [hDt, datE_snoc, htk, Nat.zero_add, ← hcs]
    exact hw'
 ·obtain rfl : k = ds.length := by omega
  have hlenD : D.length = ds.length := by rw [← hD, List.length_map]
  rw [List.take_of_length_le (by omega)] at hnd ⊢
  refine W.xt ?_
  with_reducible apply At.next
  apply W.sr
  apply oop; rfl; apply Pev.load_blkA; rfl; exact yes; exact .head _; rfl; exact Take.au
  apply OL.storeB; rfl; rfl; exact CellsL.agg; rfl; rfl; rfl; exact Swap.au; exact Put.au
  apply oas; rfl; rfl
  apply OL.nx
  apply W.ret
  refine At.finC1 rfl rfl rfl (.tail _ (.tail _ (.head _))) rfl rfl (fun w' hw' => ?_)
  have hx : Ext w w' := hw'.toExt (.head _) (fun k hk => NotOwned.blk (by omega) (NotOwned.mapS (by omega) (NotOwned.blk (by omega) .nil)))
  rw [if_pos hnd]
  refine ⟨hx, ⟨ds, q, cap, bm, datE 0 D⟩, rfl, rfl, by simp only; omega, ⟨h.ext hx, hw'.item (.tail _ (.head _)), ?_, ?_, hlen⟩, rfl⟩
  ·show TabM (ds.map Prod.fst) _
   rw [hD]
   exact datE_tab D
  ·show Uniq (ds.map Prod.fst)
   rw [hD]
   exact conAt_uniq hnd
end Go.Proofs.Ytleggdmhihcafaa.pt

/- The walk of patterns.check and Check. Conditions: none. -/
namespace Go.Pt
open Go.Eng Go.RowKit
theorem TT.ok.own {T : TT} {w w1 w' : World} {H : List Eng.Item} {S : List World} (hT : T.ok w1) (h : Arr datR w (low w) T.ds T.q) (hw : Cls H S w') (hs : w ∈ S) (hno : ∀ k, k < w.heap.size → NotOwned H k) (hi : mapS T.b T.m ∈ H) : T.ok w' :=
 ⟨h.at hw hs hno, hw.item hi, hT.tab, hT.uniq, hT.len⟩
section
variable {D : List Da} {R : List (List Ty)}
theorem checkE_len (h1 : smallE D R = true) (h2 : (flatN D).Nodup) {i : Nat} {r r0 : List Ty} (hr : R[i]? = some r) (h0 : R[0]? = some r0) (hn : r.length ≠ r0.length) : checkE D R = 3 := by
 cases R with
 | nil => cases h0
 | cons s t =>
  simp only [List.getElem?_cons_zero, Option.some.injEq] at h0
  subst h0
  unfold checkE
  rw [if_neg (by simp [h1]), if_neg (fun h => h h2)]
  simp only
  rw [if_pos]
  rw [List.all_eq_false]
  exact ⟨r, List.mem_of_getElem? hr, by simpa using hn⟩
theorem checkE_all {s : List Ty} {t : List (List Ty)} (hall : ∀ (j : Nat) (r r0 : List Ty), (s :: t)[j]? = some r → (s :: t)[0]? = some r0 → r.length = r0.length) : ¬ ((s :: t).all (fun r => decide (r.length = s.length)) = false) := by
 rw [Bool.not_eq_false, List.all_eq_true]
 intro r hr
 obtain ⟨j, hj⟩ := List.getElem?_of_mem hr
 exact decide_eq_true (hall j r s hj rfl)
theorem checkE_pat (h1 : smallE D R = true) (h2 : (flatN D).Nodup) (hall : ∀ (j : Nat) (r r0 : List Ty), R[j]? = some r → R[0]? = some r0 → r.length = r0.length) (hp : patR D R ≠ 0) : checkE D R = patR D R := by
 cases R with
 | nil => exact absurd rfl hp
 | cons s t =>
  unfold checkE
  rw [if_neg (by simp [h1]), if_neg (fun h => h h2)]
  simp only
  rw [if_neg (checkE_all hall), if_pos hp]
theorem checkE_agr (h1 : smallE D R = true) (h2 : (flatN D).Nodup) (hall : ∀ (j : Nat) (r r0 : List Ty), R[j]? = some r → R[0]? = some r0 → r.length = r0.length) (hp : patR D R = 0) {r0 : List Ty} (h0 : R[0]? = some r0) {n : Nat} (hn : n < r0.length) (ha : agrE D (fuelC R n) (col R n) = false) : checkE D R = 10 := by
 cases R with
 | nil => cases h0
 | cons s t =>
  simp only [List.getElem?_cons_zero, Option.some.injEq] at h0
  subst h0
  unfold checkE
  rw [if_neg (by simp [h1]), if_neg (fun h => h h2)]
  simp only
  rw [if_neg (checkE_all hall), if_neg (fun h => h hp), if_pos (ra_false hn ha)]
theorem checkE_zero (h1 : smallE D R = true) (h2 : (flatN D).Nodup) (hall : ∀ (j : Nat) (r r0 : List Ty), R[j]? = some r → R[0]? = some r0 → r.length = r0.length) (hp : patR D R = 0) (ha : ∀ r0, R[0]? = some r0 → ∀ n, n < r0.length → agrE D (fuelC R n) (col R n) = true) : checkE D R = 0 := by
 cases R with
 | nil =>
  unfold checkE
  rw [if_neg (by simp [h1]), if_neg (fun h => h h2)]
 | cons s t =>
  unfold checkE
  rw [if_neg (by simp [h1]), if_neg (fun h => h h2)]
  simp only
  rw [if_neg (checkE_all hall), if_neg (fun h => h hp), if_neg (by rw [ra_true (ha s rfl)]; decide)]
end
end Go.Pt
namespace Go.Proofs.Ytleggdmhihcafaa.pt
open Go.RowKit Go.Eng Go.Pt
set_option maxRecDepth 100000
theorem check_calls (qd : Option Addr) (cd : Nat) (ds : List (Da × DY)) (q : Option Addr) (cap : Nat) (rs : List (List Ty × PY)) (w : World) (hdl : ds.length ≤ 9223372036854775807) (hd : Arr datR w (low w) ds qd) (hlen : rs.length ≤ 9223372036854775807) (h : Arr patsR w (low w) rs q) :
  Calls Try.prog 20 [.slice qd ds.length cd, .slice q rs.length cap].toArray w fun e w' => Ext w w' ∧ if checkE (ds.map Prod.fst) (rs.map Prod.fst) = 0 then ∃ T : TT, T.ds = ds ∧ T.ok w' ∧ e = .returned (.tuple #[T.v, .int .i64 0]) else e = .returned (.tuple #[.agg #[.slice none 0 0, .map none], .int .i64 (checkE (ds.map Prod.fst) (rs.map Prod.fst))]) := by
 refine enter Try.func20 rfl Try.ntmps20 rfl (Cls.start w) ?_
 obtain ⟨D, hD⟩ : ∃ D, ds.map Prod.fst = D := ⟨_, rfl⟩
 obtain ⟨R, hR⟩ : ∃ R, rs.map Prod.fst = R := ⟨_, rfl⟩
 have hRl : R.length = rs.length := by rw [← hR, List.length_map]
 rw [hD, hR]
 (simp only [argEnv, Nat.zero_add, Nat.reduceAdd])
 apply W.sr
 apply OL.alloc; rfl; rfl; exact CellsL.agg; (intro bk hbk; simp only [AllLe, and_true] at hbk)
 apply oas; rfl; rfl
 apply OL.nx
 apply W.seq
 apply W.sr
 apply omv; rfl; rfl
 apply omv; rfl; rfl
 revert bk
 intro b4 hb4
 (((first | (with_reducible apply OL.op) | (with_reducible apply QL.op)); (exact Guard.au); rfl; rfl); (exact Pev.call (v := .bool (smallE D R)) rfl (by exact Args.au) (fun _ w2 hw2 => (small_calls qd cd ds q cap rs w2 hdl (hd.at hw2 (by exact mau) (fun k hk => by exact NotOwned.au)) hlen (h.at hw2 (by exact mau) (fun k hk => by exact NotOwned.au))).mono (fun e w3 h => ⟨by rw [h.1, hD, hR], hw2.ext h.2⟩))))
 apply oop; rfl; apply Pev.not; rfl; exact yes
 apply OL.nx
 refine W.cond rfl (fun hb => ?_) (fun hb => ?_)
 ·have hsm : smallE D R = false := by simpa using hb
  have hc : checkE D R = 2 := by unfold checkE; rw [if_pos hsm]
  apply W.sr
  apply oop; rfl; apply Pev.build; rfl; exact CellsL.agg; rfl; exact Fill.au; rfl
  apply OL.storeB; rfl; rfl; exact CellsL.agg; rfl; rfl; rfl; exact Swap.au; exact Put.au
  apply oas; rfl; rfl
  apply OL.nx
  refine W.rt ?_
  refine At.finC1 rfl rfl rfl (by exact mau) rfl rfl (fun w' hw' => ?_)
  rw [hc, if_neg (by decide)]
  exact ⟨by (exact hw'.fr), rfl⟩
 have hsm : smallE D R = true := by simpa using hb
 apply W.sk
 apply W.sr
 apply omv; rfl; rfl
 by_cases hnd : ¬ (flatN D).Nodup
 ·have hc : checkE D R = 7 := by unfold checkE; rw [if_neg (by simp [hsm]), if_pos hnd]
  refine OL.callE (α := Unit) (fun _ => .tuple #[.agg #[.slice none 0 0, .map none], .int .i64 7]) (fun _ => True) (fun _ => Cls [blk b4 55 [.slice none 0 0, .map none]] [w]) rfl rfl (by exact Args.au) (fun w2 hw2 => ?_) ?_
  ·refine (build_calls qd cd ds w2 hdl (hd.at hw2 (.head _) (fun k hk => by exact NotOwned.au))).mono (fun e w3 h => ?_)
   rw [hD, if_neg hnd] at h
   exact ⟨(), h.2, trivial, hw2.ext h.1⟩
  intro _ _
  apply omv; rfl; rfl
  apply oex; rfl; rfl; rfl
  apply oex; rfl; rfl; rfl
  apply OL.alloc; rfl; rfl; exact CellsL.agg; (intro bk hbk; simp only [AllLe, and_true] at hbk)
  apply OL.storeB; rfl; rfl; exact CellsL.agg; rfl; rfl; rfl; exact Swap.au; exact Put.au
  apply oas; rfl; rfl
  apply OL.nx
  apply W.seq
  apply W.sr
  apply omv; rfl; rfl
  apply obn; rfl; rfl; rfl; apply Bin.neq
  apply OL.nx
  refine W.cond rfl (fun _ => ?_) (fun hb => by simp at hb)
  apply W.sr
  apply oop; rfl; apply Pev.build; rfl; exact CellsL.agg; rfl; exact Fill.au; rfl
  apply omv; rfl; rfl
  apply OL.storeB; rfl; rfl; exact CellsL.agg; rfl; rfl; rfl; exact Swap.au; exact Put.au
  apply oas; rfl; rfl
  apply OL.nx
  refine W.rt ?_
  refine At.finC1 rfl rfl rfl (by exact mau) rfl rfl (fun w' hw' => ?_)
  rw [hc, if_neg (by decide)]
  exact ⟨by (exact hw'.fr), rfl⟩
 have hnd : (flatN D).Nodup := Classical.not_not.1 hnd
 refine OL.callE (α := TT) (fun T => .tuple #[.agg #[.slice T.q T.ds.length T.c, .map (some T.b)], .int .i64 0]) (fun T => T.ds = ds ∧ T.q = qd ∧ w.heap.size ≤ T.b ∧ ∃ w1, T.ok w1) (fun T => Cls [mapS T.b T.m, blk b4 55 [.slice none 0 0, .map none]] [w]) rfl rfl (by exact Args.au) (fun w2 hw2 => ?_) ?_
 ·refine (build_calls qd cd ds w2 hdl (hd.at hw2 (.head _) (fun k hk => by exact NotOwned.au))).mono (fun e w3 h => ?_)
  rw [hD, if_pos hnd] at h
  obtain ⟨hx, T, h1, h2, h3, h4, h5⟩ := h
  have hws := (hw2.kp w (.head _)).size
  refine ⟨T, h5, ⟨h1, h2, by omega, w3, h4⟩, hw2.add hx _ h4.map_ (fun k hk => ?_)⟩
  have hk' : k = T.b := hk
  subst hk'
  exact ⟨h3, mapS_lt h4.map_⟩
 rintro T ⟨hTd, hTq, hTb, w1, hT1⟩
 have hTD : T.D = D := by rw [← hD, ← hTd]; rfl
 have harr : Arr datR w (low w) T.ds T.q := by rw [hTd, hTq]; exact hd
 apply omv; rfl; rfl
 apply oex; rfl; rfl; rfl
 apply oex; rfl; rfl; rfl
 apply OL.alloc; rfl; rfl; exact CellsL.agg; (intro bk hbk; simp only [AllLe, and_true] at hbk)
 apply OL.storeB; rfl; rfl; exact CellsL.agg; rfl; rfl; rfl; exact Swap.au; exact Put.au
 apply oas; rfl; rfl
 apply OL.nx
 apply W.seq
 apply W.sr
 apply omv; rfl; rfl
 apply obn; rfl; rfl; rfl; apply Bin.neq
 apply OL.nx
 revert bk
 intro b6 hb6
 refine W.cond rfl (fun hb => by simp at hb) (fun _ => ?_)
 apply W.sk
 apply W.seq
 apply W.sr
 apply omv; rfl; rfl
 apply oop; rfl; apply Pev.len_slice; rfl; exact yes; rfl
 apply omv; rfl; rfl
 apply OL.nx
 apply W.block
 have hHH : ∀ k, k < w.heap.size → NotOwned [blk b6 55 [.slice T.q T.ds.length T.c, .map (some T.b)], mapS T.b T.m, blk b4 55 [.slice none 0 0, .map none]] k := fun k hk => NotOwned.blk (by omega) (NotOwned.mapS (by omega) (NotOwned.blk (by omega) .nil))
 have hHX : ∀ k, k < w.heap.size → NotOwned [blk b6 55 [.slice T.q T.ds.length T.c, .map (some T.b)], mapS T.b T.m, blk b4 55 [.slice T.q T.ds.length T.c, .map (some T.b)]] k := fun k hk => NotOwned.blk (by omega) (NotOwned.mapS (by omega) (NotOwned.blk (by omega) .nil))
 have hrow : ∀ i, i < rs.length → ∃ a u, q = some a ∧ a.block < w.heap.size ∧ rs[i]? = some u ∧ R[i]? = some u.1 ∧ w.cell? (a.add (i * 1)) = some (.slice u.2.1 u.1.length u.2.2) ∧ patsR.ok w (low w) u.1 u.2 := fun i hi => by
  obtain ⟨a, u, h1, h2, h3, h4, h5⟩ := h.get hi
  exact ⟨a, u, h1, h2, h3, by rw [← hR, List.getElem?_map, h3]; rfl, h4 0 _ rfl, h5⟩
 refine W.loop (G := Nat) (fun i => i ≤ rs.length ∧ ∀ (j : Nat) (r r0 : List Ty), j < i → R[j]? = some r → R[0]? = some r0 → r.length = r0.length) (fun i => rs.length - i)
  (fun i => [(1, true, .slice q rs.length cap), (4, true, .pointer (some ⟨b4, 0, none⟩)), (6, true, .pointer (some ⟨b6, 0, none⟩)), (33, true, .slice q rs.length cap), (34, true, .int .i64 (rs.length : Int)), (35, true, .int .i64 (i : Int))])
  (fun i => Cls [blk b6 55 [.slice T.q T.ds.length T.c, .map (some T.b)], mapS T.b T.m, blk b4 55 [.slice none 0 0, .map none]] [w]) 0 ⟨Nat.zero_le _, fun j r r0 hj => by omega⟩ (by exact Sub.au) (fun w' hw' => hw') ?_
 rintro i ⟨hi, hall⟩
 simp only at hi hall ⊢
 apply W.sr
 apply obn; rfl; rfl; rfl; apply Bin.lss
 apply OL.nx
 apply W.seq
 (refine W.cnd (fun hlt => ?_) (fun hlt => ?_)) <;> (try (exfalso; first | omega | exact hlt trivial | contradiction))
 ·obtain ⟨a, u, hqa, hab, hu, hRu, hcell, hok⟩ := hrow i (by omega)
  obtain ⟨a0, u0, hqa0, hab0, hu0, hRu0, hcell0, hok0⟩ := hrow 0 (by omega)
  rw [hqa] at hqa0
  obtain rfl := Option.some.inj hqa0
  rw [hqa]
  apply W.sk
  apply W.sb
  apply W.sr
  apply oop; rfl; apply Pev.idx; rfl; exact yes; rfl; exact yes; rfl; rfl; intro hcond; omega
  apply oop; rfl; apply Pev.load_kept; rfl; exact yes; exact .head _; rfl; intro hcond; assumption; intro hcond; (rw [add_block]; assumption); intro hcond; exact NotOwned.au
  apply oas; rfl; rfl
  apply OL.nsr
  apply omv; rfl; rfl
  apply oop; rfl; apply Pev.len_slice; rfl; exact yes; rfl
  apply omv; rfl; rfl
  apply oop; rfl; apply Pev.idx; rfl; exact yes; rfl; exact yes; rfl; rfl; intro hcond; (simp only [Bool.and_eq_true, Bool.or_eq_true, Bool.not_eq_true', decide_eq_true_eq, decide_eq_false_iff_not] at *; omega)
  apply oop; rfl; apply Pev.load_kept; rfl; exact yes; exact .head _; rfl; intro hcond; assumption; intro hcond; assumption; intro hcond; exact NotOwned.au
  apply oop; rfl; apply Pev.len_slice; rfl; exact yes; rfl
  apply obn; rfl; rfl; rfl; apply Bin.neq
  apply OL.nx
  refine W.cond rfl (fun hb => ?_) (fun hb => ?_)
  ·have hb : u.1.length ≠ u0.1.length := by
    simp at hb
    omega
   have hc : checkE D R = 3 := checkE_len hsm hnd hRu hRu0 hb
   apply W.sr
   apply oop; rfl; apply Pev.build; rfl; exact CellsL.agg; rfl; exact Fill.au; rfl
   apply OL.storeB; rfl; rfl; exact CellsL.agg; rfl; rfl; rfl; exact Swap.au; exact Put.au
   apply oas; rfl; rfl
   apply OL.nx
   refine W.rt ?_
   refine At.finC1 rfl rfl rfl (.tail _ (.tail _ (.head _))) rfl rfl (fun w' hw' => ?_)
   rw [hc, if_neg (by decide)]
   exact ⟨hw'.toExt (.head _) hHH, rfl⟩
  ·have hb : u.1.length = u0.1.length := by
    simp at hb
    omega
   apply W.skip
   with_reducible apply At.in_normal
   with_reducible apply At.next
   apply W.reg
   apply obn; rfl; rfl; rfl; apply Bin.add_in; omega
   apply omv; rfl; rfl
   apply OL.nil
   refine At.again (i + 1) ⟨by omega, fun j r r0 hj h1 h2 => ?_⟩ (by omega) (by exact Sub.au) (fun w' hw' => hw')
   by_cases hji : j < i
   ·exact hall j r r0 hji h1 h2
   ·obtain rfl : j = i := by omega
    rw [hRu] at h1
    rw [hRu0] at h2
    rw [← Option.some.inj h1, ← Option.some.inj h2, hb]
 obtain rfl : i = rs.length := by omega
 have hall : ∀ (j : Nat) (r r0 : List Ty), R[j]? = some r → R[0]? = some r0 → r.length = r0.length := fun j r r0 h1 h2 => hall j r r0 (by have := (List.getElem?_eq_some_iff.1 h1).1; omega) h1 h2
 refine W.xt ?_
 with_reducible apply At.next
 apply W.seq
 apply W.sr
 apply omv; rfl; rfl
 apply oop; rfl; apply Pev.len_slice; rfl; exact yes; rfl
 apply omv; rfl; rfl
 apply OL.nx
 apply W.block
 refine W.loop (G := Nat) (fun i => i ≤ rs.length ∧ patR D (R.drop i) = patR D R) (fun i => rs.length - i)
  (fun i => [(1, true, .slice q rs.length cap), (4, true, .pointer (some ⟨b4, 0, none⟩)), (6, true, .pointer (some ⟨b6, 0, none⟩)), (48, true, .slice q rs.length cap), (49, true, .int .i64 (rs.length : Int)), (50, true, .int .i64 (i : Int))])
  (fun i => Cls [blk b6 55 [.slice T.q T.ds.length T.c, .map (some T.b)], mapS T.b T.m, blk b4 55 [.slice none 0 0, .map none]] [w]) 0 ⟨Nat.zero_le _, rfl⟩ (by exact Sub.au) (fun w' hw' => hw') ?_
 rintro i ⟨hi, hrest⟩
 simp only at hi hrest ⊢
 apply W.sr
 apply obn; rfl; rfl; rfl; apply Bin.lss
 apply OL.nx
 apply W.seq
 (refine W.cnd (fun hlt => ?_) (fun hlt => ?_)) <;> (try (exfalso; first | omega | exact hlt trivial | contradiction))
 ·obtain ⟨a, u, hqa, hab, hu, hRu, hcell, hok⟩ := hrow i (by omega)
  obtain ⟨⟨pr, hpr, hpra⟩, hrc, hrl⟩ := hok
  have hprl : pr.length = u.1.length := by rw [← hpr, List.length_map]
  have hdr : R.drop i = u.1 :: R.drop (i + 1) := by
   have hl : i < R.length := by omega
   rw [List.drop_eq_getElem_cons hl]
   rw [List.getElem?_eq_getElem hl] at hRu
   rw [Option.some.inj hRu]
  rw [hdr, patR] at hrest
  rw [hqa]
  apply W.sk
  apply W.sb
  apply W.sr
  apply oop; rfl; apply Pev.idx; rfl; exact yes; rfl; exact yes; rfl; rfl; intro hcond; omega
  apply oop; rfl; apply Pev.load_kept; rfl; exact yes; exact .head _; rfl; intro hcond; assumption; intro hcond; (rw [add_block]; assumption); intro hcond; exact NotOwned.au
  apply oas; rfl; rfl
  apply OL.nsr
  apply omv; rfl; rfl
  apply oop; rfl; apply Pev.len_slice; rfl; exact yes; rfl
  apply omv; rfl; rfl
  apply OL.nx
  apply W.block
  refine W.loop (G := Nat) (fun j => j ≤ pr.length ∧ patL D ((pr.drop j).map Prod.fst) = patL D u.1) (fun j => pr.length - j)
   (fun j => [(1, true, .slice (some a) rs.length cap), (4, true, .pointer (some ⟨b4, 0, none⟩)), (6, true, .pointer (some ⟨b6, 0, none⟩)), (48, true, .slice (some a) rs.length cap), (49, true, .int .i64 (rs.length : Int)), (50, true, .int .i64 (i : Int)), (54, true, .slice u.2.1 u.1.length u.2.2), (55, true, .int .i64 (u.1.length : Int)), (56, true, .int .i64 (j : Int))])
   (fun j => Cls [blk b6 55 [.slice T.q T.ds.length T.c, .map (some T.b)], mapS T.b T.m, blk b4 55 [.slice none 0 0, .map none]] [w]) 0 ⟨Nat.zero_le _, by rw [List.drop_zero, hpr]⟩ (by exact Sub.au) (fun w' hw' => hw') ?_
  rintro j ⟨hj, hrest2⟩
  simp only at hj hrest2 ⊢
  apply W.sr
  apply obn; rfl; rfl; rfl; apply Bin.lss
  apply OL.nx
  apply W.seq
  (refine W.cnd (fun hltj => ?_) (fun hltj => ?_)) <;> (try (exfalso; first | omega | exact hltj trivial | contradiction))
  ·obtain ⟨ap, v, hqp, habp, hv, hcellp, hokp⟩ := hpra.get (show j < pr.length by omega)
   have habp : ap.block < w.heap.size := habp
   have hcellp : CellsAt w (ap.add (j * 4)) [.int .i64 v.1.kind, .string v.1.name, .int .i64 v.1.var, .slice v.2.1 v.1.args.length v.2.2] := hcellp
   have hdr2 : pr.drop j = v :: pr.drop (j + 1) := by
    have hl : j < pr.length := by omega
    rw [List.drop_eq_getElem_cons hl]
    rw [List.getElem?_eq_getElem hl] at hv
    rw [Option.some.inj hv]
   rw [hdr2, List.map_cons, patL] at hrest2
   rw [hqp]
   apply W.sk
   apply W.sb
   apply W.sr
   apply oop; rfl; apply Pev.idx; rfl; exact yes; rfl; exact yes; rfl; rfl; intro hcond; omega
   apply oop; rfl; apply Pev.load_keptA; rfl; exact yes; exact .head _; rfl; intro hcond; assumption; rfl; intro hcond; (rw [add_block]; assumption); intro hcond; exact NotOwned.au
   apply OL.alloc; rfl; rfl; exact CellsL.agg; (intro bk hbk; simp only [AllLe, and_true] at hbk)
   apply OL.storeB; rfl; rfl; exact CellsL.agg; rfl; rfl; rfl; exact Swap.au; exact Put.au
   apply OL.nsr
   apply oop; rfl; apply Pev.load_blkA; rfl; exact yes; exact .tail _ (.head _); rfl; exact Take.au
   apply oop; rfl; apply Pev.load_blkA; rfl; exact yes; exact .head _; rfl; exact Take.au
   have hH2 : ∀ k, k < w.heap.size → NotOwned (blk bk 50 [.int .i64 v.1.kind, .string v.1.name, .int .i64 v.1.var, .slice v.2.1 v.1.args.length v.2.2] :: [blk b6 55 [.slice T.q T.ds.length T.c, .map (some T.b)], mapS T.b T.m, blk b4 55 [.slice none 0 0, .map none]]) k := fun k hk => NotOwned.blk (by omega) (hHH k hk)
   (((first | (with_reducible apply OL.op) | (with_reducible apply QL.op)); (exact Guard.au); rfl; rfl); (exact Pev.call (v := .int .i64 (patE D v.1)) rfl (by exact Args.au) (fun _ w2 hw2 => (pattern_calls T (v.1.sz + 1) v.1 v.2 w2 (Nat.lt_succ_self _) (hT1.own harr hw2 (.head _) hH2 (.tail _ (.tail _ (.head _)))) (Rel.ext (R := tyR) hokp (hw2.toExt (.head _) hH2))).mono (fun e w3 h => ⟨by rw [h.1, hTD], hw2.ext h.2⟩))))
   apply oas; rfl; rfl
   apply OL.nsr
   apply omv; rfl; rfl
   apply obn; rfl; rfl; rfl; apply Bin.neq
   apply OL.nx
   by_cases h0 : patE D v.1 = 0
   ·rw [if_pos h0] at hrest2
    refine W.cond rfl (fun hb => by simp [h0] at hb) (fun _ => ?_)
    apply W.skip
    with_reducible apply At.in_normal
    with_reducible apply At.next
    apply W.reg
    apply obn; rfl; rfl; rfl; apply Bin.add_in; omega
    apply omv; rfl; rfl
    apply OL.nil
    exact At.again (j + 1) ⟨by omega, hrest2⟩ (by omega) (by exact Sub.au) (fun w' hw' => hw'.thin (by exact Thin.au))
   ·rw [if_neg h0] at hrest2
    have hpR : patR D R = patE D v.1 := by
     rw [← hrest, if_neg (by rw [← hrest2]; exact h0), hrest2]
    have hc : checkE D R = patE D v.1 := by rw [checkE_pat hsm hnd hall (by rw [hpR]; exact h0), hpR]
    refine W.cond rfl (fun _ => ?_) (fun hb => by simp at hb; omega)
    apply W.sr
    apply oop; rfl; apply Pev.build; rfl; exact CellsL.agg; rfl; exact Fill.au; rfl
    apply omv; rfl; rfl
    apply OL.storeB; rfl; rfl; exact CellsL.agg; rfl; rfl; rfl; exact Swap.au; exact Put.au
    apply oas; rfl; rfl
    apply OL.nx
    refine W.rt ?_
    refine At.finC1 rfl rfl rfl (.tail _ (.tail _ (.tail _ (.head _)))) rfl rfl (fun w' hw' => ?_)
    rw [hc, if_neg h0]
    exact ⟨hw'.toExt (.head _) hH2, rfl⟩
  ·rw [List.drop_eq_nil_of_le (by omega)] at hrest2
   rw [if_pos (by rw [← hrest2]; rfl)] at hrest
   refine W.xt ?_
   with_reducible apply At.in_normal
   with_reducible apply At.next
   apply W.reg
   apply obn; rfl; rfl; rfl; apply Bin.add_in; omega
   apply omv; rfl; rfl
   apply OL.nil
   exact At.again (i + 1) ⟨by omega, hrest⟩ (by omega) (by exact Sub.au) (fun w' hw' => hw')
 obtain rfl : i = rs.length := by omega
 rw [List.drop_eq_nil_of_le (by omega), patR] at hrest
 have hpR := hrest.symm
 refine W.xt ?_
 with_reducible apply At.next
 apply W.seq
 apply W.sr
 apply oas; rfl; rfl
 apply OL.nx
 apply W.block
 by_cases hr0 : rs.length = 0
 ·have hc : checkE D R = 0 := checkE_zero hsm hnd hall hpR (fun r0 h0 => by have := (List.getElem?_eq_some_iff.1 h0).1; omega)
  refine W.loop (G := Unit) (fun _ => True) (fun _ => 0)
   (fun _ => [(1, true, .slice q rs.length cap), (4, true, .pointer (some ⟨b4, 0, none⟩)), (6, true, .pointer (some ⟨b6, 0, none⟩)), (15, true, .int .i64 0)])
   (fun _ => Cls [blk b6 55 [.slice T.q T.ds.length T.c, .map (some T.b)], mapS T.b T.m, blk b4 55 [.slice none 0 0, .map none]] [w]) () trivial (by exact Sub.au) (fun w' hw' => hw') ?_
  intro _ _
  simp only [hr0]
  apply W.seq
  apply W.sr
  apply omv; rfl; rfl
  apply oop; rfl; apply Pev.len_slice; rfl; exact yes; rfl
  apply obn; rfl; rfl; rfl; apply Bin.gtr
  apply omv; rfl; rfl
  apply oy; rfl; rfl; rfl; apply Pev.move; rfl; exact yes
  apply oy; rfl; rfl; rfl; apply Pev.move; rfl; exact yes
  apply OL.gateOff; exact Guard.yes rfl rfl; rfl; rfl
  apply OL.gateOff; exact Guard.yes rfl rfl; rfl; rfl
  apply OL.gateOff; exact Guard.yes rfl rfl; rfl; rfl
  apply OL.gateOff; exact Guard.yes rfl rfl; rfl; rfl
  apply oop; rfl; apply Pev.pick_off; rfl; exact yes; (intro hcond; rfl); rfl; exact yes
  apply OL.nx
  refine W.cond rfl (fun hb => by cases hb) (fun _ => ?_)
  refine W.xt ?_
  with_reducible apply At.next
  apply W.sr
  apply oop; rfl; apply Pev.load_blkA; rfl; exact yes; exact .head _; rfl; exact Take.au
  apply OL.storeB; rfl; rfl; exact CellsL.agg; rfl; rfl; rfl; exact Swap.au; exact Put.au
  apply oas; rfl; rfl
  apply OL.nx
  apply W.ret
  refine At.finC1 rfl rfl rfl (.tail _ (.tail _ (.head _))) rfl rfl (fun w' hw' => ?_)
  rw [hc, if_pos rfl]
  have hx := hw'.toExt (s := w) (.head _) hHX
  exact ⟨hx, T, hTd, hT1.own harr hw' (.head _) hHX (.tail _ (.head _)), rfl⟩
 have hr64 : rs.length ≤ 64 := by
  unfold smallE at hsm
  rw [Bool.and_eq_true, Bool.and_eq_true, decide_eq_true_eq] at hsm
  omega
 obtain ⟨a, u0, hqa, hab, hu0, hRu0, hcell0, hok0⟩ := hrow 0 (by omega)
 have hl0 : u0.1.length ≤ 9223372036854775807 := hok0.2.2
 have hwR : ∀ r ∈ R, ∀ p ∈ r, Wf D p := patR_wf D R hpR
 refine W.loop (G := Nat) (fun n => n ≤ u0.1.length ∧ ∀ m, m < n → agrE D (fuelC R m) (col R m) = true) (fun n => u0.1.length - n)
  (fun n => [(1, true, .slice q rs.length cap), (4, true, .pointer (some ⟨b4, 0, none⟩)), (6, true, .pointer (some ⟨b6, 0, none⟩)), (15, true, .int .i64 (n : Int))])
  (fun n => Cls [blk b6 55 [.slice T.q T.ds.length T.c, .map (some T.b)], mapS T.b T.m, blk b4 55 [.slice none 0 0, .map none]] [w]) 0 ⟨Nat.zero_le _, fun m hm => by omega⟩ (by exact Sub.au) (fun w' hw' => hw') ?_
 rintro n ⟨hn, hag⟩
 simp only at hn hag ⊢
 have hpos : decide ((0 : Int) < (rs.length : Int)) = true := by simp; omega
 rw [hqa]
 apply W.seq
 apply W.sr
 apply omv; rfl; rfl
 apply oop; rfl; apply Pev.len_slice; rfl; exact yes; rfl
 apply obn; rfl; rfl; rfl; apply Bin.gtr
 apply omv; rfl; rfl
 apply oy; rfl; rfl; rfl; apply Pev.move; rfl; exact yes
 apply oy; rfl; rfl; rfl; apply Pev.move; rfl; exact yes
 apply oy; rfl; rfl; rfl; apply Pev.idx; rfl; exact fun h => h; rfl; exact yes; rfl; rfl; intro hcond; (simp only [Bool.and_eq_true, Bool.or_eq_true, Bool.not_eq_true', decide_eq_true_eq, decide_eq_false_iff_not] at *; omega)
 apply oy; rfl; rfl; rfl; apply Pev.load_kept; rfl; exact fun h => h; exact .head _; rfl; intro hcond; assumption; intro hcond; assumption; intro hcond; exact NotOwned.au
 apply oy; rfl; rfl; rfl; apply Pev.len_slice; rfl; exact fun h => h; rfl
 apply oy; rfl; rfl; rfl; apply Pev.bin; rfl; exact fun h => h; rfl; exact fun h => h; intro hcond; apply Bin.lss
 apply oop; rfl; apply Pev.pick_and; rfl; exact yes; rfl; exact fun h => h
 apply OL.nx
 rw [hpos, Bool.true_and]
 by_cases hnl : n < u0.1.length
 ·refine W.cond rfl (fun _ => ?_) (fun hb => by simp at hb; omega)
  apply W.sk
  apply W.sb
  apply W.sr
  apply oas; rfl; rfl
  apply OL.nx
  apply W.seq
  apply W.sr
  apply omv; rfl; rfl
  apply oop; rfl; apply Pev.len_slice; rfl; exact yes; rfl
  apply omv; rfl; rfl
  apply OL.nx
  apply W.block
  refine W.loop (G := Nat × GT) (fun g => g.1 ≤ rs.length ∧ g.2.ps.map Prod.fst = col (R.take g.1) n ∧ g.2.ps.length ≤ g.1 ∧ ∀ p ∈ g.2.ps, TyO w (low w) p.1 p.2) (fun g => rs.length - g.1)
   (fun g => [(1, true, .slice (some a) rs.length cap), (4, true, .pointer (some ⟨b4, 0, none⟩)), (6, true, .pointer (some ⟨b6, 0, none⟩)), (15, true, .int .i64 (n : Int)), (16, true, .slice g.2.q g.2.ps.length g.2.c), (82, true, .slice (some a) rs.length cap), (83, true, .int .i64 (rs.length : Int)), (84, true, .int .i64 (g.1 : Int))])
   (fun g => Cls (row w.heap.size g.2.O g.2.q g.2.ps.length g.2.c 50 4 (cat tyR.c g.2.ps) :: [blk b6 55 [.slice T.q T.ds.length T.c, .map (some T.b)], mapS T.b T.m, blk b4 55 [.slice none 0 0, .map none]]) [w]) (0, ⟨fun _ => False, none, 0, []⟩) ⟨Nat.zero_le _, rfl, Nat.le_refl _, fun p hp => by cases hp⟩ (by exact Sub.au) (fun w' hw' => hw'.row_nil w.heap.size 50 4) ?_
  rintro ⟨j, O, q2, c2, bs⟩ ⟨hj, hbs, hbl, hbok⟩
  simp only at hj hbs hbl hbok ⊢
  apply W.sr
  apply obn; rfl; rfl; rfl; apply Bin.lss
  apply OL.nx
  apply W.seq
  (refine W.cnd (fun hltj => ?_) (fun hltj => ?_)) <;> (try (exfalso; first | omega | exact hltj trivial | contradiction))
  ·obtain ⟨aj, u, hqj, habj, hu, hRu, hcell, hok⟩ := hrow j (by omega)
   rw [hqa] at hqj
   obtain rfl := Option.some.inj hqj
   obtain ⟨⟨pr, hpr, hpra⟩, hrc, hrl⟩ := hok
   have hprl : pr.length = u.1.length := by rw [← hpr, List.length_map]
   have hul := hall j u.1 u0.1 hRu hRu0
   obtain ⟨az, z, hqz, habz, hz, hcellz, hokz⟩ := hpra.get (show n < pr.length by omega)
   have habz : az.block < w.heap.size := habz
   have hcellz : CellsAt w (az.add (n * 4)) [.int .i64 z.1.kind, .string z.1.name, .int .i64 z.1.var, .slice z.2.1 z.1.args.length z.2.2] := hcellz
   have hcol : col (R.take (j + 1)) n = col (R.take j) n ++ [z.1] := by
    rw [List.take_add_one, hRu, Option.toList_some]
    unfold col
    rw [List.filterMap_append]
    congr 1
    simp only [List.filterMap_cons, List.filterMap_nil]
    rw [← hpr, List.getElem?_map, hz]
    rfl
   rw [← hbs] at hcol
   have e1 : bs.length + 1 = (bs ++ [z]).length := by simp
   have e2 : cat tyR.c bs ++ [Value.int .i64 z.1.kind, .string z.1.name, .int .i64 z.1.var, .slice z.2.1 z.1.args.length z.2.2] = cat tyR.c (bs ++ [z]) := by rw [cat_append]; rfl
   rw [hqz] at hcell
   apply W.sk
   apply W.sb
   apply W.sr
   apply oop; rfl; apply Pev.idx; rfl; exact yes; rfl; exact yes; rfl; rfl; intro hcond; omega
   apply oop; rfl; apply Pev.load_kept; rfl; exact yes; exact .head _; rfl; intro hcond; assumption; intro hcond; (rw [add_block]; assumption); intro hcond; exact NotOwned.au
   apply oas; rfl; rfl
   apply OL.nx
   apply W.reg
   apply omv; rfl; rfl
   apply omv; rfl; rfl
   apply omv; rfl; rfl
   apply oop; rfl; apply Pev.idx; rfl; exact yes; rfl; exact yes; rfl; rfl; intro hcond; omega
   apply oop; rfl; apply Pev.load_keptA; rfl; exact yes; exact .head _; rfl; intro hcond; assumption; rfl; intro hcond; (rw [add_block]; assumption); intro hcond; exact NotOwned.au
   apply OL.buildSlice; rfl; rfl; rfl; exact Elems.au; rfl; rfl; (intro bk hbk; simp only [AllLe, and_true] at hbk)
   apply OL.append; rfl; rfl; rfl; rfl; exact Hole.au; exact .head _; exact Take.au; rfl; rfl; exact ⟨_, .head _, Nat.le_refl _⟩; omega; intro O1 g1 cap1
   apply oas; rfl; rfl
   apply OL.nil
   with_reducible apply At.in_normal
   with_reducible apply At.next
   apply W.reg
   apply obn; rfl; rfl; rfl; apply Bin.add_in; omega
   apply omv; rfl; rfl
   apply OL.nil
   rw [e1, e2]
   exact At.again (j + 1, ⟨O1, some ⟨g1, 0, none⟩, cap1, bs ++ [z]⟩) ⟨by simp only; omega, by simp only [hcol]; simp, by simp only [← e1]; omega, fun p hp => (List.mem_append.1 hp).elim (hbok p) (fun hp => by rw [List.mem_singleton] at hp; rw [hp]; exact hokz)⟩ (by simp only; omega) (by exact Sub.au) (fun w' hw' => hw'.thin (by exact Thin.au))
  ·obtain rfl : j = rs.length := by omega
   rw [show R.take rs.length = R from List.take_of_length_le (by omega)] at hbs
   have hwb : ∀ p ∈ bs, Wf T.D p.1 := fun p hp => by
    rw [hTD]
    have g1 : p.1 ∈ col R n := by rw [← hbs]; exact List.mem_map_of_mem hp
    obtain ⟨r, k1, k2⟩ := col_mem.1 g1
    exact hwR r k1 p.1 (List.mem_of_getElem? k2)
   have hH3 : ∀ k, k < w.heap.size → NotOwned (row w.heap.size O q2 bs.length c2 50 4 (cat tyR.c bs) :: [blk b6 55 [.slice T.q T.ds.length T.c, .map (some T.b)], mapS T.b T.m, blk b4 55 [.slice none 0 0, .map none]]) k := fun k hk => NotOwned.row (by omega) (hHH k hk)
   refine W.xt ?_
   with_reducible apply At.next
   apply W.sr
   apply oop; rfl; apply Pev.load_blkA; rfl; exact yes; exact .tail _ (.head _); rfl; exact Take.au
   apply omv; rfl; rfl
   (((first | (with_reducible apply OL.op) | (with_reducible apply QL.op)); (exact Guard.au); rfl; rfl); (exact Pev.call (v := .bool (agrE D (fuelC R n) (col R n))) rfl (by exact Args.au) (fun _ w2 hw2 => (agree_calls T (fuelC R n) q2 c2 bs w2 (by rw [hbs]; exact Nat.lt_succ_self _) (by omega) (hT1.own harr hw2 (.head _) hH3 (.tail _ (.tail _ (.head _)))) (Arr.of_row (hw2.item (.head _)) hbok (hw2.toExt (s := w) (.head _) hH3)) hwb).mono (fun e w3 h => ⟨by rw [h.1, hTD, hbs], hw2.ext h.2⟩))))
   apply oop; rfl; apply Pev.not; rfl; exact yes
   apply OL.nx
   refine W.cond rfl (fun hb => ?_) (fun hb => ?_)
   ·have hb : agrE D (fuelC R n) (col R n) = false := by simpa using hb
    have hc : checkE D R = 10 := checkE_agr hsm hnd hall hpR hRu0 hnl hb
    apply W.sr
    apply oop; rfl; apply Pev.build; rfl; exact CellsL.agg; rfl; exact Fill.au; rfl
    apply OL.storeB; rfl; rfl; exact CellsL.agg; rfl; rfl; rfl; exact Swap.au; exact Put.au
    apply oas; rfl; rfl
    apply OL.nx
    refine W.rt ?_
    refine At.finC1 rfl rfl rfl (.tail _ (.tail _ (.tail _ (.head _)))) rfl rfl (fun w' hw' => ?_)
    rw [hc, if_neg (by decide)]
    exact ⟨hw'.toExt (.head _) hH3, rfl⟩
   ·have hb : agrE D (fuelC R n) (col R n) = true := by simpa using hb
    apply W.skip
    with_reducible apply At.in_normal
    with_reducible apply At.next
    apply W.reg
    apply omv; rfl; rfl
    apply obn; rfl; rfl; rfl; apply Bin.add_in; omega
    apply oas; rfl; rfl
    apply OL.nil
    refine At.again (n + 1) ⟨by omega, fun m hm => ?_⟩ (by omega) (by exact Sub.au) (fun w' hw' => hw'.thin (.row (by simp only [AllLe, and_true]; omega) Thin.same))
    by_cases hmn : m < n
    ·exact hag m hmn
    ·rw [show m = n by omega]; exact hb
 ·have hc : checkE D R = 0 := checkE_zero hsm hnd hall hpR (fun r0 h0 m hm => by
   rw [hRu0] at h0
   rw [← Option.some.inj h0] at hm
   exact hag m (by omega))
  refine W.cond rfl (fun hb => by simp at hb; omega) (fun _ => ?_)
  refine W.xt ?_
  with_reducible apply At.next
  apply W.sr
  apply oop; rfl; apply Pev.load_blkA; rfl; exact yes; exact .head _; rfl; exact Take.au
  apply OL.storeB; rfl; rfl; exact CellsL.agg; rfl; rfl; rfl; exact Swap.au; exact Put.au
  apply oas; rfl; rfl
  apply OL.nx
  apply W.ret
  refine At.finC1 rfl rfl rfl (.tail _ (.tail _ (.head _))) rfl rfl (fun w' hw' => ?_)
  rw [hc, if_pos rfl]
  have hx := hw'.toExt (s := w) (.head _) hHX
  exact ⟨hx, T, hTd, hT1.own harr hw' (.head _) hHX (.tail _ (.head _)), rfl⟩
end Go.Proofs.Ytleggdmhihcafaa.pt

/- Plain: the steps of useful. No program in sight. No condition. -/
namespace Go.Pt
open Go.Eng
variable {D : List Da} {rows : List (List Ty)} {p : Ty} {t : List Ty}
theorem use_con (hU : Uniq D) (hM1 : Mat D ((p :: t) :: rows) (t.length + 1)) (hk3 : p.kind = 3) {d : Nat} {c : Co} (e1 : conAt D p.name = some (d, c)) : Mat D ((p.args ++ t) :: narrow rows p.name c.many) (p.args ++ t).length ∧ wtR (narrow rows p.name c.many) + wtA (p.args ++ t) + (p.args ++ t).length + 1 ≤ wtR rows + (wt p + wtA t) + (t.length + 1) := by
 have hwp : Wf D p := hM1.wf _ (.head _) p (.head _)
 obtain ⟨d', c', g1, e2, e3⟩ := hwp.cons hk3
 rw [e1] at g1
 cases g1
 have hnm := (conAt_mem e1).2
 have hcc : conAt D c.name = some (d, c) := by rw [hnm]; exact e1
 have hpf : p ∈ first ((p :: t) :: rows) := first_mem.2 ⟨t, .head _, free_no (.inr hk3)⟩
 have h33 : ∀ q ∈ first ((p :: t) :: rows), q.kind = 3 := fun q hq => by rw [(hM1.kinds hq hpf).1, hk3]
 have hnr : narrow ((p :: t) :: rows) c.name c.many = (p.args ++ t) :: narrow rows c.name c.many := by
  unfold narrow
  rw [List.filterMap_cons]
  simp [free_no (.inr hk3), hnm]
 have hMn := hM1.narrow hcc h33
 have hll : (p.args ++ t).length = c.many + t.length := by rw [List.length_append, e2]
 rw [hnr, ← hll, hnm] at hMn
 refine ⟨hMn, ?_⟩
 have g1 := wtR_narrow p.name c.many rows
 have g2 := wt_eq p
 rw [if_neg (by rw [free_no (.inr hk3)]; decide)] at g2
 rw [wtA_app, hll]
 omega
theorem use_int (hM1 : Mat D ((p :: t) :: rows) (t.length + 1)) (n : Int) : Mat D (t :: leftI rows n) t.length ∧ wtR (leftI rows n) + wtA t + t.length + 1 ≤ wtR rows + (wt p + wtA t) + (t.length + 1) := ⟨hM1.tail (fun s hs => by
 rcases List.mem_cons.1 hs with rfl | hs
 ·exact ⟨p, .head _⟩
 ·obtain ⟨q, hq⟩ := leftI_tail n s hs
  exact ⟨q, .tail _ hq⟩), by have := wtR_leftI n rows; omega⟩
theorem use_rest (hM1 : Mat D ((p :: t) :: rows) (t.length + 1)) : Mat D (t :: rest rows) t.length ∧ wtR (rest rows) + wtA t + t.length + 1 ≤ wtR rows + (wt p + wtA t) + (t.length + 1) := ⟨hM1.tail (fun s hs => by
 rcases List.mem_cons.1 hs with rfl | hs
 ·exact ⟨p, .head _⟩
 ·obtain ⟨q, hq⟩ := rest_tail s hs
  exact ⟨q, .tail _ hq⟩), by have := wtR_rest rows; omega⟩
theorem use_any (hU : Uniq D) (hM1 : Mat D ((p :: t) :: rows) (t.length + 1)) (hpf : free p = true) (ha : absent D (first rows) = none) {d : Nat} (hall : ∀ q ∈ first rows, q.kind = 3 ∧ dOf D q.name = some d) (hcon : ∀ c ∈ consOf D d, ∃ q ∈ first rows, q.name = c.name) {x : Ty} (hx : x ∈ first rows) {c : Co} (hc : c ∈ consOf D d) : Mat D ((anys c.many ++ t) :: narrow rows c.name c.many) (anys c.many ++ t).length ∧ wtR (narrow rows c.name c.many) + wtA (anys c.many ++ t) + (anys c.many ++ t).length + 1 ≤ wtR rows + (wt p + wtA t) + (t.length + 1) := by
 have hMr : Mat D rows (t.length + 1) := hM1.mono (fun r hr => .tail _ hr)
 have hx1 : x ∈ first ((p :: t) :: rows) := by
  obtain ⟨s, g1, g2⟩ := first_mem.1 hx
  exact first_mem.2 ⟨s, .tail _ g1, g2⟩
 have h33 : ∀ q ∈ first ((p :: t) :: rows), q.kind = 3 := fun q hq => by rw [(hM1.kinds hq hx1).1, (hall x hx).1]
 have hnr : narrow ((p :: t) :: rows) c.name c.many = (anys c.many ++ t) :: narrow rows c.name c.many := by
  unfold narrow
  rw [List.filterMap_cons]
  simp [hpf]
 have hMn := hM1.narrow (hU d c hc) h33
 have hll : (anys c.many ++ t).length = c.many + t.length := by rw [List.length_append, anys_len]
 rw [hnr, ← hll] at hMn
 refine ⟨hMn, ?_⟩
 have g1 := occurs hU hMr hall hcon hc
 rw [wtA_app, wtA_anys, hll]
 omega
end Go.Pt
