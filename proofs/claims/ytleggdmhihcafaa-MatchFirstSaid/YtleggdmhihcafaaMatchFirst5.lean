/- Texts of the proof of MatchFirst, part 5: rules of a calculus for walking, plain laws, and walks of the functions that the law reaches. No condition. -/
import Derived.SizedLaws
import Derived.Test.YtleggdmhihcafaaProg
import Derived.Test.YtleggdmhihcafaaMatchFirst4
set_option linter.unusedVariables false
set_option linter.unusedSimpArgs false
set_option linter.unusedSectionVars false
/- The walk of match.Run at a valid tree. Conditions: none. -/
namespace Go.Pt
open Go.Eng Go.RowKit
theorem bareE_kind {x : Pt.Nd} (h : bareE x = true) : (x.kind = 0 ∨ x.kind = 1 ∨ x.kind = 2 ∨ x.kind = 3) ∧ (x.kind = 2 → 0 < x.path.length ∧ x.kids.length = x.names.length + 1) ∧ (x.kind = 3 → 0 < x.path.length ∧ x.kids.length = x.words.length + 1) := by
 unfold bareE at h
 by_cases k0 : x.kind = 0
 ·exact ⟨.inl k0, fun h => by omega, fun h => by omega⟩
 rw [if_neg k0] at h
 by_cases k1 : x.kind = 1
 ·exact ⟨.inr (.inl k1), fun h => by omega, fun h => by omega⟩
 rw [if_neg k1] at h
 by_cases k2 : x.kind = 2
 ·rw [if_pos k2] at h
  simp only [Bool.and_eq_true, decide_eq_true_eq] at h
  exact ⟨.inr (.inr (.inl k2)), fun _ => ⟨h.2.2.1, h.2.2.2⟩, fun h => by omega⟩
 rw [if_neg k2] at h
 by_cases k3 : x.kind = 3
 ·rw [if_pos k3] at h
  simp only [Bool.and_eq_true, decide_eq_true_eq] at h
  exact ⟨.inr (.inr (.inr k3)), fun h => by omega, fun _ => ⟨h.2.2.1, h.2.2.2⟩⟩
 rw [if_neg k3] at h
 cases h
theorem pickI_2 {x : Pt.Nd} (h : x.kind = 2) (v : Ty) : pickI x v = idxP (fun n : ByteArray => decide (n = v.name)) x.names 0 := by
 unfold pickI
 exact if_neg (by omega)
theorem pickI_3 {x : Pt.Nd} (h : x.kind = 3) (v : Ty) : pickI x v = idxP (fun n : Int => decide (n = v.var)) x.words 0 := by
 unfold pickI
 exact if_pos h
theorem pickK_neg {x : Pt.Nd} {v : Ty} (h : pickI x v < 0) : pickK x v = x.kids.length - 1 := if_pos h
theorem pickK_nat {x : Pt.Nd} {v : Ty} {i : Nat} (h : pickI x v = (i : Int)) : pickK x v = i := by
 unfold pickK
 rw [h, if_neg (by omega)]
 exact Int.toNat_natCast i
theorem pickK_pos {x : Pt.Nd} {v : Ty} (h : ¬ pickI x v < 0) : ((pickK x v : Nat) : Int) = pickI x v := by
 unfold pickK
 rw [if_neg h]
 omega
theorem idxP_nat {α : Type} (f : α → Bool) (l : List α) : idxP f l 0 = -1 ∨ ∃ i, i < l.length ∧ idxP f l 0 = (i : Int) := by
 rcases idxP_cases f l 0 with ⟨e, _⟩ | ⟨i, y, e1, _, e3, _⟩
 ·exact .inl e
 ·refine .inr ⟨i, (List.getElem?_eq_some_iff.1 e1).1, ?_⟩
  rw [e3, Nat.zero_add]
theorem pickK_lt {x : Pt.Nd} (h : bareE x = true) (hk : x.kind = 2 ∨ x.kind = 3) (v : Ty) : pickK x v < x.kids.length := by
 obtain ⟨_, h2, h3⟩ := bareE_kind h
 have key : pickI x v < 0 ∨ ∃ i, i + 1 < x.kids.length ∧ pickI x v = (i : Int) := by
  rcases hk with hk | hk
  ·rw [pickI_2 hk]
   have hl := (h2 hk).2
   rcases idxP_nat (fun n : ByteArray => decide (n = v.name)) x.names with e | ⟨i, hi, e⟩
   ·exact .inl (by rw [e]; decide)
   ·exact .inr ⟨i, by omega, e⟩
  ·rw [pickI_3 hk]
   have hl := (h3 hk).2
   rcases idxP_nat (fun n : Int => decide (n = v.var)) x.words with e | ⟨i, hi, e⟩
   ·exact .inl (by rw [e]; decide)
   ·exact .inr ⟨i, by omega, e⟩
 have hl : 0 < x.kids.length := by
  rcases hk with hk | hk
  ·rw [(h2 hk).2]; omega
  ·rw [(h3 hk).2]; omega
 rcases key with e | ⟨i, hi, e⟩
 ·rw [pickK_neg e]; omega
 ·rw [pickK_nat e]; omega
end Go.Pt
namespace Go.Proofs.Ytleggdmhihcafaa.pt
open Go.RowKit Go.Eng Go.Pt
set_option maxRecDepth 100000
theorem mRun_calls (qd : Option Addr) (cd : Nat) (ds : List (Da × DY)) (q qv : Option Addr) (cap cv : Nat) (ts : List NdE) (vs : List (Ty × PY)) (w : World) (hdl : ds.length ≤ 9223372036854775807) (hd : Arr datR w (low w) ds qd) (hN : (flatN (ds.map Prod.fst)).Nodup) (h : SlAt w w.heap.size q (cat ndC ts)) (hts : ∀ x ∈ ts, NdAt w x) (hv : ValidT (ds.map Prod.fst) (ts.map Prod.fst)) (hvl : vs.length ≤ 9223372036854775807) (hva : Arr tyR w (low w) vs qv) :
  Calls Try.prog 16 [.slice qd ds.length cd, .slice q ts.length cap, .slice qv vs.length cv].toArray w fun e w' => e = .returned (.tuple #[.int .i64 (runE (ts.map Prod.fst) (vs.map Prod.fst) ts.length (ts.length - 1)).1, .int .i64 (runE (ts.map Prod.fst) (vs.map Prod.fst) ts.length (ts.length - 1)).2]) ∧ Ext w w' := by
 have hvv := hv
 obtain ⟨hv1, hv2, hv3⟩ := hvv
 rw [List.length_map] at hv1 hv2
 refine enter Try.func16 rfl Try.ntmps16 rfl (Cls.start w) ?_
 obtain ⟨D, hD⟩ : ∃ D, ds.map Prod.fst = D := ⟨_, rfl⟩
 obtain ⟨T, hT⟩ : ∃ T, ts.map Prod.fst = T := ⟨_, rfl⟩
 obtain ⟨V, hV⟩ : ∃ V, vs.map Prod.fst = V := ⟨_, rfl⟩
 obtain ⟨RS, hRS⟩ : ∃ RS, runE T V ts.length (ts.length - 1) = RS := ⟨_, rfl⟩
 rw [hT, hV, hRS]
 rw [hT, hD] at hv3
 (simp only [argEnv, Nat.zero_add, Nat.reduceAdd])
 apply W.sr
 apply oas; rfl; rfl
 apply oas; rfl; rfl
 apply OL.nx
 apply W.seq
 apply W.sr
 apply omv; rfl; rfl
 apply omv; rfl; rfl
 (((first | (with_reducible apply OL.op) | (with_reducible apply QL.op)); (exact Guard.au); rfl; rfl); (refine Pev.call (v := .int .i64 0) rfl (by exact Args.au) (fun _ w2 hw2 => ?_)))
 ·have hx2 := hw2.toExt (s := w) (.head _) (fun k hk => .nil)
  exact (mCheck_calls qd cd ds q cap ts w2 hdl (hd.ext hx2) hN (SlAt.extS h hx2) (fun x hx => (hts x hx).ext hx2) hv).mono fun e w3 h => ⟨h.1, hw2.ext h.2⟩
 apply oas; rfl; rfl
 apply OL.nsr
 apply omv; rfl; rfl
 apply obn; rfl; rfl; rfl; apply Bin.neq
 apply OL.nx
 refine W.cond rfl (fun hb => by cases hb) (fun _ => ?_)
 apply W.sk
 apply W.sr
 apply omv; rfl; rfl
 apply oop; rfl; apply Pev.len_slice; rfl; exact yes; rfl
 apply obn; rfl; rfl; rfl; apply Bin.sub_in; omega
 apply oas; rfl; rfl
 apply OL.nx
 apply W.block
 have hkm : (ts.length : Int) - 1 = ((ts.length - 1 : Nat) : Int) := by omega
 rw [hkm]
 refine W.loop (G := Nat × Nat) (fun g => runE T V g.1 g.2 = RS ∧ g.2 < g.1 ∧ g.2 < ts.length) (fun g => g.1)
  (fun g => [(1, true, .slice q ts.length cap), (2, true, .slice qv vs.length cv), (9, true, .int .i64 (g.2 : Int))])
  (fun g => Cls [] [w]) (ts.length, ts.length - 1) ⟨hRS, by simp only; omega, by simp only; omega⟩ (by exact Sub.au) (fun w' hw' => hw') ?_
 rintro ⟨f, k⟩ ⟨hrun, hkf, hkl⟩
 simp only at hrun hkf hkl ⊢
 obtain ⟨f, rfl⟩ : ∃ f', f = f' + 1 := ⟨f - 1, by omega⟩
 obtain ⟨a, x, hqa, hab, hxi, hcell⟩ := h.elem ndC_len (by decide) hkl
 have hxm := List.mem_of_getElem? hxi
 have hTx : T[k]? = some x.1 := by rw [← hT, List.getElem?_map, hxi]; rfl
 obtain ⟨d, hbare, hrow, hpath, hwords, hnames, hnn, hwn, hkids⟩ := hv3 k x.1 hTx
 obtain ⟨hkind, hk2, hk3⟩ := bareE_kind hbare
 have hxa := hts x hxm
 obtain ⟨l1, l2, l3, l4⟩ := hxa.l
 rw [runE, hTx] at hrun
 simp only at hrun
 simp only [ndC] at hcell
 rw [hqa]
 apply W.block
 apply W.sr
 apply omv; rfl; rfl
 apply omv; rfl; rfl
 apply oop; rfl; apply Pev.idx; rfl; exact yes; rfl; exact yes; rfl; rfl; intro hcond; omega
 apply oop; rfl; apply Pev.load_keptA; rfl; exact yes; exact .head _; rfl; intro hcond; assumption; rfl; intro hcond; (rw [add_block]; assumption); intro hcond; exact NotOwned.au
 apply OL.alloc; rfl; rfl; exact CellsL.agg; (intro bk hbk; simp only [AllLe, and_true] at hbk)
 apply OL.storeB; rfl; rfl; exact CellsL.agg; rfl; rfl; rfl; exact Swap.au; exact Put.au
 apply OL.nx
 apply W.seq
 apply W.sr
 apply ofa; rfl; rfl; rfl
 apply old; rfl; rfl; exact .head _; rfl; rfl
 apply OL.nx
 apply W.block
 apply W.sr
 apply obn; rfl; rfl; rfl; apply Bin.eql
 apply oas; rfl; rfl
 apply OL.nx
 revert bk
 intro b10 hb10
 by_cases k0 : x.1.kind = 0
 ·rw [if_pos k0] at hrun
  refine W.cond rfl (fun _ => ?_) (fun hb => absurd (of_decide_eq_false hb) (by omega))
  rw [← hrun]
  apply W.sr
  apply oas; rfl; rfl
  apply oas; rfl; rfl
  apply OL.nx
  refine W.rt ?_
  ((with_reducible apply At.fin2); rfl; rfl; rfl; intro w' hw')
  exact ⟨rfl, by (exact hw'.fr)⟩
 rw [if_neg k0] at hrun
 refine W.cond rfl (fun hb => absurd (of_decide_eq_true hb) k0) (fun _ => ?_)
 apply W.sr
 apply obn; rfl; rfl; rfl; apply Bin.eql
 apply oas; rfl; rfl
 apply OL.nx
 by_cases k1 : x.1.kind = 1
 ·rw [if_pos k1] at hrun
  refine W.cond rfl (fun _ => ?_) (fun hb => absurd (of_decide_eq_false hb) (by omega))
  rw [← hrun]
  apply W.sr
  apply ofa; rfl; rfl; rfl
  apply old; rfl; rfl; exact .head _; rfl; rfl
  apply oas; rfl; rfl
  apply oas; rfl; rfl
  apply OL.nx
  refine W.rt ?_
  ((with_reducible apply At.fin2); rfl; rfl; rfl; intro w' hw')
  exact ⟨rfl, by (exact hw'.fr)⟩
 rw [if_neg k1] at hrun
 refine W.cond rfl (fun hb => absurd (of_decide_eq_true hb) k1) (fun _ => ?_)
 have hk23 : x.1.kind = 2 ∨ x.1.kind = 3 := by omega
 have hpk := fun v => pickK_lt hbare hk23 v
 apply W.skip
 with_reducible apply At.in_normal
 with_reducible apply At.next
 apply W.sr
 apply omv; rfl; rfl
 apply ofa; rfl; rfl; rfl
 apply old; rfl; rfl; exact .head _; rfl; rfl
 obtain ⟨av, hav⟩ : ∃ av, atE anyT V x.1.path = av := ⟨_, rfl⟩
 refine OL.callE (α := PY × World) (fun y => .tuple #[.agg (tyc (av.getD anyT) y.1).toArray, .bool av.isSome]) (fun y => True) (fun y => Cls [blk b10 77 [.int .i64 x.1.kind, .int .i64 x.1.row, .slice x.2.p.1 x.1.path.length x.2.p.2, .slice x.2.n.1 x.1.names.length x.2.n.2, .slice x.2.w.1 x.1.words.length x.2.w.2, .slice x.2.k.1 x.1.kids.length x.2.k.2]] [w]) rfl rfl (by exact Args.au) (fun w2 hw2 => ?_) ?_
 ·have hx2 := hw2.toExt (s := w) (.head _) (fun k hk => NotOwned.blk (by omega) .nil)
  have hc := at_calls qv x.2.p.1 cv x.2.p.2 vs x.1.path w2 hvl (by omega) (hva.ext hx2) (SlAt.extS hxa.p hx2) hpath
  rw [hV, hav] at hc
  refine hc.mono ?_
  rintro e w3 ⟨k1, y, k2, k3⟩
  exact ⟨(y, w3), k2, trivial, hw2.ext k1⟩
 rintro ⟨yv, w1⟩ _
 simp only
 rw [hav] at hrun
 apply omv; rfl; rfl
 apply oex; rfl; rfl; rfl
 apply oex; rfl; rfl; rfl
 apply OL.alloc; rfl; rfl; exact CellsL.agg; (intro bk hbk; simp only [AllLe, and_true] at hbk)
 apply OL.storeB; rfl; rfl; exact CellsL.agg; rfl; rfl; rfl; exact Swap.au; exact Put.au
 apply oas; rfl; rfl
 apply OL.nx
 apply W.seq
 apply W.sr
 apply omv; rfl; rfl
 apply oop; rfl; apply Pev.not; rfl; exact yes
 apply OL.nx
 rename_i b11 hb11
 rcases av with _ | av0
 ·refine W.cond rfl (fun _ => ?_) (fun hb => by cases hb)
  have hrun : ((0 : Int), (4 : Int)) = RS := hrun
  rw [← hrun]
  apply W.sr
  apply oas; rfl; rfl
  apply oas; rfl; rfl
  apply OL.nx
  refine W.rt ?_
  ((with_reducible apply At.fin2); rfl; rfl; rfl; intro w' hw')
  exact ⟨rfl, by (exact hw'.fr)⟩
 refine W.cond rfl (fun hb => by cases hb) (fun _ => ?_)
 simp only [Option.getD_some, tyc]
 simp only at hrun
 apply W.sk
 apply W.sr
 apply oas; rfl; rfl
 apply OL.nx
 apply W.seq
 apply W.sr
 apply ofa; rfl; rfl; rfl
 apply old; rfl; rfl; exact .tail _ (.head _); rfl; rfl
 apply obn; rfl; rfl; rfl; apply Bin.eql
 apply OL.nx
 by_cases k3 : x.1.kind = 3
 ·refine W.cond rfl (fun _ => ?_) (fun hb => absurd (of_decide_eq_false hb) (by omega))
  apply W.seq
  apply W.sr
  apply ofa; rfl; rfl; rfl
  apply old; rfl; rfl; exact .head _; rfl; rfl
  apply obn; rfl; rfl; rfl; apply Bin.neq
  apply OL.nx
  by_cases hv2 : av0.kind = 2
  ·rw [if_neg (by omega)] at hrun
   refine W.cond rfl (fun hb => absurd hb (by simp [hv2])) (fun _ => ?_)
   apply W.sk
   apply W.reg
   apply ofa; rfl; rfl; rfl
   apply old; rfl; rfl; exact .tail _ (.head _); rfl; rfl
   apply ofa; rfl; rfl; rfl
   apply old; rfl; rfl; exact .head _; rfl; rfl
   (((first | (with_reducible apply OL.op) | (with_reducible apply QL.op)); (exact Guard.au); rfl; rfl); (refine Pev.call (v := .int .i64 (idxP (fun n : Int => decide (n = av0.var)) x.1.words 0)) rfl (by exact Args.au) (fun _ w2 hw2 => ?_)))
   ·have hx2 := hw2.toExt (s := w) (by simp) (fun k hk => NotOwned.blk (by omega) (NotOwned.blk (by omega) .nil))
    exact (IIdx_calls x.2.w.1 x.2.w.2 x.1.words av0.var w2 (by omega) (SlAt.extS hxa.d hx2)).mono fun e w3 h => ⟨h.1, hw2.ext h.2⟩
   apply oas; rfl; rfl
   apply OL.nx
   apply W.seq
   apply W.sr
   apply omv; rfl; rfl
   apply obn; rfl; rfl; rfl; apply Bin.lss
   apply OL.nx
   refine W.cond rfl (fun hb => ?_) (fun hb => ?_)
   ·have hneg : pickI x.1 (av0) < 0 := by rw [pickI_3 k3]; exact of_decide_eq_true hb
    have hk0 : pickK x.1 av0 = x.1.kids.length - 1 := pickK_neg hneg
    have hki : (x.1.kids.length : Int) - 1 = ((x.1.kids.length - 1 : Nat) : Int) := by omega
    obtain ⟨ak, n, hqk, habk, hni, hncell⟩ := Pt.SlAt.int hxa.k (show x.1.kids.length - 1 < x.1.kids.length by omega)
    have hgd : x.1.kids.getD (pickK x.1 av0) 0 = n := by rw [hk0, List.getD_eq_getElem?_getD, hni]; rfl
    rw [hgd] at hrun
    have hkn := hkids _ n hni
    apply W.reg
    apply ofa; rfl; rfl; rfl
    apply old; rfl; rfl; exact .tail _ (.head _); rfl; rfl
    apply oop; rfl; apply Pev.len_slice; rfl; exact yes; rfl
    apply obn; rfl; rfl; rfl; apply Bin.sub_in; omega
    apply oas; rfl; rfl
    apply OL.nsr
    apply ofa; rfl; rfl; rfl
    apply old; rfl; rfl; exact .tail _ (.head _); rfl; rfl
    apply omv; rfl; rfl
    apply oop; rfl; apply Pev.idxQI; rfl; exact yes; rfl; exact yes; assumption; rfl; intro hcond; omega
    rw [hki, hqk]
    apply oop; rfl; apply Pev.load_kept; rfl; exact yes; exact .head _; rfl; intro hcond; assumption; intro hcond; (rw [add_block]; assumption); intro hcond; exact NotOwned.au
    apply oas; rfl; rfl
    apply OL.nsr
    apply omv; rfl; rfl
    apply obn; rfl; rfl; rfl; apply Bin.lss
    apply OL.nx
    refine W.cond rfl (fun hb2 => ?_) (fun hb2 => ?_)
    ·have hb2 := of_decide_eq_true hb2
     rw [if_pos hb2] at hrun
     rw [← hrun]
     apply W.sr
     apply oas; rfl; rfl
     apply oas; rfl; rfl
     apply OL.nx
     refine W.rt ?_
     ((with_reducible apply At.fin2); rfl; rfl; rfl; intro w' hw')
     exact ⟨rfl, by (exact hw'.fr)⟩
    ·have hb2 := of_decide_eq_false hb2
     rw [if_neg hb2] at hrun
     obtain ⟨y, rfl⟩ : ∃ y : Nat, n = (y : Int) := ⟨n.toNat, by omega⟩
     rw [Int.toNat_natCast] at hrun
     have hyk : y < k := by omega
     apply W.skip
     with_reducible apply At.in_normal
     exact At.again (f, y) ⟨hrun, by simp only; omega, by simp only; omega⟩ (by simp only; omega) (by exact Sub.au) (fun w' hw' => hw'.thin (by exact Thin.au))
   ·have hnn0 : ¬ pickI x.1 av0 < 0 := by rw [pickI_3 k3]; exact of_decide_eq_false hb
    obtain ⟨m, hm, hIm⟩ : ∃ m, m < x.1.kids.length ∧ idxP (fun n : Int => decide (n = av0.var)) x.1.words 0 = (m : Int) := by
     refine ⟨pickK x.1 av0, hpk av0, ?_⟩
     rw [← pickI_3 k3] 
     exact (pickK_pos hnn0).symm
    have hk0 : pickK x.1 av0 = m := pickK_nat (by rw [pickI_3 k3]; exact hIm)
    obtain ⟨ak, n, hqk, habk, hni, hncell⟩ := Pt.SlAt.int hxa.k hm
    have hgd : x.1.kids.getD (pickK x.1 av0) 0 = n := by rw [hk0, List.getD_eq_getElem?_getD, hni]; rfl
    rw [hgd] at hrun
    have hkn := hkids _ n hni
    rw [hIm]
    rw [hqk]
    apply W.sk
    apply W.sr
    apply ofa; rfl; rfl; rfl
    apply old; rfl; rfl; exact .tail _ (.head _); rfl; rfl
    apply omv; rfl; rfl
    apply oop; rfl; apply Pev.idx; rfl; exact yes; rfl; exact yes; rfl; rfl; intro hcond; omega
    apply oop; rfl; apply Pev.load_kept; rfl; exact yes; exact .head _; rfl; intro hcond; assumption; intro hcond; (rw [add_block]; assumption); intro hcond; exact NotOwned.au
    apply oas; rfl; rfl
    apply OL.nsr
    apply omv; rfl; rfl
    apply obn; rfl; rfl; rfl; apply Bin.lss
    apply OL.nx
    refine W.cond rfl (fun hb2 => ?_) (fun hb2 => ?_)
    ·have hb2 := of_decide_eq_true hb2
     rw [if_pos hb2] at hrun
     rw [← hrun]
     apply W.sr
     apply oas; rfl; rfl
     apply oas; rfl; rfl
     apply OL.nx
     refine W.rt ?_
     ((with_reducible apply At.fin2); rfl; rfl; rfl; intro w' hw')
     exact ⟨rfl, by (exact hw'.fr)⟩
    ·have hb2 := of_decide_eq_false hb2
     rw [if_neg hb2] at hrun
     obtain ⟨y, rfl⟩ : ∃ y : Nat, n = (y : Int) := ⟨n.toNat, by omega⟩
     rw [Int.toNat_natCast] at hrun
     have hyk : y < k := by omega
     apply W.skip
     with_reducible apply At.in_normal
     exact At.again (f, y) ⟨hrun, by simp only; omega, by simp only; omega⟩ (by simp only; omega) (by exact Sub.au) (fun w' hw' => hw'.thin (by exact Thin.au))
  ·rw [if_pos (by omega)] at hrun
   rw [← hrun]
   refine W.cond rfl (fun _ => ?_) (fun hb => absurd hb (by simp [hv2]))
   apply W.sr
   apply oas; rfl; rfl
   apply oas; rfl; rfl
   apply OL.nx
   refine W.rt ?_
   ((with_reducible apply At.fin2); rfl; rfl; rfl; intro w' hw')
   exact ⟨rfl, by (exact hw'.fr)⟩
 ·refine W.cond rfl (fun hb => absurd (of_decide_eq_true hb) (by omega)) (fun _ => ?_)
  have k2 : x.1.kind = 2 := by omega
  apply W.seq
  apply W.sr
  apply ofa; rfl; rfl; rfl
  apply old; rfl; rfl; exact .head _; rfl; rfl
  apply obn; rfl; rfl; rfl; apply Bin.neq
  apply OL.nx
  by_cases hv2 : av0.kind = 3
  ·rw [if_neg (by omega)] at hrun
   refine W.cond rfl (fun hb => absurd hb (by simp [hv2])) (fun _ => ?_)
   apply W.sk
   apply W.reg
   apply ofa; rfl; rfl; rfl
   apply old; rfl; rfl; exact .tail _ (.head _); rfl; rfl
   apply ofa; rfl; rfl; rfl
   apply old; rfl; rfl; exact .head _; rfl; rfl
   (((first | (with_reducible apply OL.op) | (with_reducible apply QL.op)); (exact Guard.au); rfl; rfl); (refine Pev.call (v := .int .i64 (idxP (fun n : ByteArray => decide (n = av0.name)) x.1.names 0)) rfl (by exact Args.au) (fun _ w2 hw2 => ?_)))
   ·have hx2 := hw2.toExt (s := w) (by simp) (fun k hk => NotOwned.blk (by omega) (NotOwned.blk (by omega) .nil))
    exact (SIdx_calls x.2.n.1 x.2.n.2 x.1.names av0.name w2 (by omega) (SlAt.extS hxa.n hx2)).mono fun e w3 h => ⟨h.1, hw2.ext h.2⟩
   apply oas; rfl; rfl
   apply OL.nx
   apply W.seq
   apply W.sr
   apply omv; rfl; rfl
   apply obn; rfl; rfl; rfl; apply Bin.lss
   apply OL.nx
   refine W.cond rfl (fun hb => ?_) (fun hb => ?_)
   ·have hneg : pickI x.1 (av0) < 0 := by rw [pickI_2 k2]; exact of_decide_eq_true hb
    have hk0 : pickK x.1 av0 = x.1.kids.length - 1 := pickK_neg hneg
    have hki : (x.1.kids.length : Int) - 1 = ((x.1.kids.length - 1 : Nat) : Int) := by omega
    obtain ⟨ak, n, hqk, habk, hni, hncell⟩ := Pt.SlAt.int hxa.k (show x.1.kids.length - 1 < x.1.kids.length by omega)
    have hgd : x.1.kids.getD (pickK x.1 av0) 0 = n := by rw [hk0, List.getD_eq_getElem?_getD, hni]; rfl
    rw [hgd] at hrun
    have hkn := hkids _ n hni
    apply W.reg
    apply ofa; rfl; rfl; rfl
    apply old; rfl; rfl; exact .tail _ (.head _); rfl; rfl
    apply oop; rfl; apply Pev.len_slice; rfl; exact yes; rfl
    apply obn; rfl; rfl; rfl; apply Bin.sub_in; omega
    apply oas; rfl; rfl
    apply OL.nsr
    apply ofa; rfl; rfl; rfl
    apply old; rfl; rfl; exact .tail _ (.head _); rfl; rfl
    apply omv; rfl; rfl
    apply oop; rfl; apply Pev.idxQI; rfl; exact yes; rfl; exact yes; assumption; rfl; intro hcond; omega
    rw [hki, hqk]
    apply oop; rfl; apply Pev.load_kept; rfl; exact yes; exact .head _; rfl; intro hcond; assumption; intro hcond; (rw [add_block]; assumption); intro hcond; exact NotOwned.au
    apply oas; rfl; rfl
    apply OL.nsr
    apply omv; rfl; rfl
    apply obn; rfl; rfl; rfl; apply Bin.lss
    apply OL.nx
    refine W.cond rfl (fun hb2 => ?_) (fun hb2 => ?_)
    ·have hb2 := of_decide_eq_true hb2
     rw [if_pos hb2] at hrun
     rw [← hrun]
     apply W.sr
     apply oas; rfl; rfl
     apply oas; rfl; rfl
     apply OL.nx
     refine W.rt ?_
     ((with_reducible apply At.fin2); rfl; rfl; rfl; intro w' hw')
     exact ⟨rfl, by (exact hw'.fr)⟩
    ·have hb2 := of_decide_eq_false hb2
     rw [if_neg hb2] at hrun
     obtain ⟨y, rfl⟩ : ∃ y : Nat, n = (y : Int) := ⟨n.toNat, by omega⟩
     rw [Int.toNat_natCast] at hrun
     have hyk : y < k := by omega
     apply W.skip
     with_reducible apply At.in_normal
     exact At.again (f, y) ⟨hrun, by simp only; omega, by simp only; omega⟩ (by simp only; omega) (by exact Sub.au) (fun w' hw' => hw'.thin (by exact Thin.au))
   ·have hnn0 : ¬ pickI x.1 av0 < 0 := by rw [pickI_2 k2]; exact of_decide_eq_false hb
    obtain ⟨m, hm, hIm⟩ : ∃ m, m < x.1.kids.length ∧ idxP (fun n : ByteArray => decide (n = av0.name)) x.1.names 0 = (m : Int) := by
     refine ⟨pickK x.1 av0, hpk av0, ?_⟩
     rw [← pickI_2 k2] 
     exact (pickK_pos hnn0).symm
    have hk0 : pickK x.1 av0 = m := pickK_nat (by rw [pickI_2 k2]; exact hIm)
    obtain ⟨ak, n, hqk, habk, hni, hncell⟩ := Pt.SlAt.int hxa.k hm
    have hgd : x.1.kids.getD (pickK x.1 av0) 0 = n := by rw [hk0, List.getD_eq_getElem?_getD, hni]; rfl
    rw [hgd] at hrun
    have hkn := hkids _ n hni
    rw [hIm]
    rw [hqk]
    apply W.sk
    apply W.sr
    apply ofa; rfl; rfl; rfl
    apply old; rfl; rfl; exact .tail _ (.head _); rfl; rfl
    apply omv; rfl; rfl
    apply oop; rfl; apply Pev.idx; rfl; exact yes; rfl; exact yes; rfl; rfl; intro hcond; omega
    apply oop; rfl; apply Pev.load_kept; rfl; exact yes; exact .head _; rfl; intro hcond; assumption; intro hcond; (rw [add_block]; assumption); intro hcond; exact NotOwned.au
    apply oas; rfl; rfl
    apply OL.nsr
    apply omv; rfl; rfl
    apply obn; rfl; rfl; rfl; apply Bin.lss
    apply OL.nx
    refine W.cond rfl (fun hb2 => ?_) (fun hb2 => ?_)
    ·have hb2 := of_decide_eq_true hb2
     rw [if_pos hb2] at hrun
     rw [← hrun]
     apply W.sr
     apply oas; rfl; rfl
     apply oas; rfl; rfl
     apply OL.nx
     refine W.rt ?_
     ((with_reducible apply At.fin2); rfl; rfl; rfl; intro w' hw')
     exact ⟨rfl, by (exact hw'.fr)⟩
    ·have hb2 := of_decide_eq_false hb2
     rw [if_neg hb2] at hrun
     obtain ⟨y, rfl⟩ : ∃ y : Nat, n = (y : Int) := ⟨n.toNat, by omega⟩
     rw [Int.toNat_natCast] at hrun
     have hyk : y < k := by omega
     apply W.skip
     with_reducible apply At.in_normal
     exact At.again (f, y) ⟨hrun, by simp only; omega, by simp only; omega⟩ (by simp only; omega) (by exact Sub.au) (fun w' hw' => hw'.thin (by exact Thin.au))
  ·rw [if_pos (by omega)] at hrun
   rw [← hrun]
   refine W.cond rfl (fun _ => ?_) (fun hb => absurd hb (by simp [hv2]))
   apply W.sr
   apply oas; rfl; rfl
   apply oas; rfl; rfl
   apply OL.nx
   refine W.rt ?_
   ((with_reducible apply At.fin2); rfl; rfl; rfl; intro w' hw')
   exact ⟨rfl, by (exact hw'.fr)⟩
end Go.Proofs.Ytleggdmhihcafaa.pt

/- Plain: the reference's cases of partly known values, against what is missing and what is useful. No program in sight. No condition. -/
namespace Go.Pt
open Go.Eng
def alive (rows : List (List Ty)) (vs : List Ty) : List (List Ty) := rows.filter fun r => decide (0 ≤ fitA r vs)
def addW (ws : List Int) (n : Int) : List Int := if n ∈ ws then ws else ws ++ [n]
def wordsOf (l : List Ty) : List Int := l.foldl (fun ws q => if q.kind = 2 then addW ws q.var else ws) []
def mkI (n : Int) : Ty := .mk 2 ⟨#[]⟩ n []
def mkC (c : Co) : Ty := .mk 3 c.name 0 (anys c.many)
def unkI (ws : List Int) : List Ty := ws.map mkI ++ if ws = [] then [] else [mkI (least ws : Int)]
def unk (D : List Da) (l : List Ty) : List Ty := match l.find? fun q => decide (q.kind = 3) with
 | some p => (consFor D [p]).map mkC
 | none => unkI (wordsOf l)
def kids (l : List Ty) : List (List Ty) := (l.filter fun q => decide (q.kind = 3)).map (·.args)
mutual
def splitOne (D : List Da) : Ty → List Ty → List Ty
 | .mk k nm n «as», l => if k = 3 then (match splitL D «as» 0 (alive (kids l) «as») with
   | none => []
   | some (j, ps) => ps.map fun x => .mk 3 nm 0 («as».set j x))
  else if k = 2 then [] else unk D l
def splitL (D : List Da) : List Ty → Nat → List (List Ty) → Option (Nat × List Ty)
 | [], _, _ => none
 | v :: vs, k, al => if (splitOne D v (col al k)).isEmpty then splitL D vs (k + 1) al else some (k, splitOne D v (col al k))
end
def Split (D : List Da) (rows : List (List Ty)) (vs : List Ty) : List (List Ty) := match splitL D vs 0 (alive rows vs) with
 | none => []
 | some (j, ps) => ps.map fun x => vs.set j x
theorem splitOne_con (D : List Da) {v : Ty} (h : v.kind = 3) (l : List Ty) : splitOne D v l = (Split D (kids l) v.args).map fun a => .mk 3 v.name 0 a := by
 cases v with
 | mk k nm n «as» =>
  have h : k = 3 := h
  rw [splitOne, if_pos h]
  unfold Split
  simp only [Ty.args, Ty.name]
  cases splitL D «as» 0 (alive (kids l) «as») with
  | none => rfl
  | some z => simp [List.map_map, Function.comp_def]
theorem splitOne_int (D : List Da) {v : Ty} (h : v.kind = 2) (l : List Ty) : splitOne D v l = [] := by
 cases v with
 | mk k nm n «as» =>
  have h : k = 2 := h
  rw [splitOne, if_neg (by omega), if_pos h]
theorem splitOne_unk (D : List Da) {v : Ty} (h : free v = true) (l : List Ty) : splitOne D v l = unk D l := by
 cases v with
 | mk k nm n «as» =>
  have h3 : ¬ k = 3 := fun e => by rw [free_no (p := .mk k nm n «as») (.inr e)] at h; cases h
  have h2 : ¬ k = 2 := fun e => by rw [free_no (p := .mk k nm n «as») (.inl e)] at h; cases h
  rw [splitOne, if_neg h3, if_neg h2]
theorem splitL_some (D : List Da) : ∀ (vs : List Ty) (k : Nat) (al : List (List Ty)) (j : Nat) (ps : List Ty), splitL D vs k al = some (j, ps) → ∃ i x, j = k + i ∧ vs[i]? = some x ∧ ps = splitOne D x (col al j) ∧ ps ≠ []
 | [], k, al, j, ps, h => by rw [splitL] at h; cases h
 | v :: vs, k, al, j, ps, h => by
  rw [splitL] at h
  by_cases he : (splitOne D v (col al k)).isEmpty = true
  ·rw [if_pos he] at h
   obtain ⟨i, x, h1, h2, h3, h4⟩ := splitL_some D vs (k + 1) al j ps h
   exact ⟨i + 1, x, by omega, by simpa using h2, h3, h4⟩
  ·rw [if_neg he] at h
   simp only [Option.some.injEq, Prod.mk.injEq] at h
   obtain ⟨rfl, rfl⟩ := h
   exact ⟨0, v, rfl, rfl, rfl, fun e => he (by rw [e]; rfl)⟩
theorem splitL_none (D : List Da) : ∀ (vs : List Ty) (k : Nat) (al : List (List Ty)), splitL D vs k al = none → ∀ (i : Nat) (x : Ty), vs[i]? = some x → splitOne D x (col al (k + i)) = []
 | [], k, al, _, i, x, hx => by simp at hx
 | v :: vs, k, al, h, i, x, hx => by
  rw [splitL] at h
  by_cases he : (splitOne D v (col al k)).isEmpty = true
  ·rw [if_pos he] at h
   cases i with
   | zero =>
    simp only [List.getElem?_cons_zero, Option.some.injEq] at hx
    subst hx
    exact List.isEmpty_iff.1 he
   | succ i =>
    have := splitL_none D vs (k + 1) al h i x (by simpa using hx)
    rwa [show k + 1 + i = k + (i + 1) by omega] at this
  ·rw [if_neg he] at h; cases h
/-! fits of lists, place by place -/
theorem fitA_one : ∀ {l vs : List Ty}, (∀ (n : Nat) (p x : Ty), l[n]? = some p → vs[n]? = some x → fit p x = 1) → fitA l vs = 1
 | [], _, _ => by simp [fitA]
 | _ :: _, [], _ => by simp [fitA]
 | p :: l, v :: vs, h => by
  rw [fitA, h 0 p v rfl rfl, fitA_one (fun n p x h1 h2 => h (n + 1) p x (by simpa using h1) (by simpa using h2))]
  rfl
theorem fitA_all : ∀ {l vs : List Ty} {z : Int}, z ≤ fitA l vs → ∀ (n : Nat) (p x : Ty), l[n]? = some p → vs[n]? = some x → z ≤ fit p x
 | [], _, _, _, n, p, x, h, _ => by simp at h
 | _ :: _, [], _, _, n, p, x, _, h => by simp at h
 | p :: l, v :: vs, z, h, n, q, x, h1, h2 => by
  rw [fitA] at h
  cases n with
  | zero =>
   simp only [List.getElem?_cons_zero, Option.some.injEq] at h1 h2
   subst h1
   subst h2
   omega
  | succ n => exact fitA_all (l := l) (vs := vs) (z := z) (by omega) n q x (by simpa using h1) (by simpa using h2)
theorem fitA_at : ∀ {l vs : List Ty}, fitA l vs < 1 → ∃ (n : Nat) (p x : Ty), l[n]? = some p ∧ vs[n]? = some x ∧ fit p x = fitA l vs
 | [], _, h => by simp [fitA] at h
 | _ :: _, [], h => by simp [fitA] at h
 | p :: l, v :: vs, h => by
  rw [fitA] at h ⊢
  by_cases hp : fit p v ≤ fitA l vs
  ·exact ⟨0, p, v, rfl, rfl, by omega⟩
  ·obtain ⟨n, q, x, h1, h2, h3⟩ := fitA_at (l := l) (vs := vs) (by omega)
   exact ⟨n + 1, q, x, by simpa using h1, by simpa using h2, by omega⟩
def Ref (x y : Ty) : Prop := ∀ p, (fit p x = -1 → fit p y = -1) ∧ (fit p x = 1 → fit p y = 1)
theorem Ref.refl (x : Ty) : Ref x x := fun p => ⟨id, id⟩
theorem Ref.of_free {x : Ty} (h : free x = true) (y : Ty) : Ref x y := fun p => by
 by_cases hp : free p = true
 ·rw [fit_free hp, fit_free hp]
  exact ⟨id, id⟩
 ·rw [fit_unknown (by simpa using hp) h]
  exact ⟨fun e => by omega, fun e => by omega⟩
def RefL (a b : List Ty) : Prop := b.length = a.length ∧ ∀ (n : Nat) (x y : Ty), a[n]? = some x → b[n]? = some y → Ref x y
theorem RefL.fits {a b : List Ty} (h : RefL a b) (l : List Ty) (hl : l.length = a.length) : (fitA l a = -1 → fitA l b = -1) ∧ (fitA l a = 1 → fitA l b = 1) := by
 constructor
 ·intro e
  obtain ⟨n, p, x, h1, h2, h3⟩ := fitA_at (l := l) (vs := a) (by omega)
  have hn := (List.getElem?_eq_some_iff.1 h2).1
  have hnb : n < b.length := by rw [h.1]; exact hn
  have hy : b[n]? = some b[n] := List.getElem?_eq_getElem hnb
  have e1 := (h.2 n x _ h2 hy p).1 (by omega)
  have hr := fitA_range l b
  by_cases hc : 0 ≤ fitA l b
  ·have := fitA_all hc n p _ h1 hy
   omega
  ·omega
 ·intro e
  refine fitA_one (fun n p y h1 h2 => ?_)
  have hn : n < a.length := by rw [← h.1]; exact (List.getElem?_eq_some_iff.1 h2).1
  have hx : a[n]? = some a[n] := List.getElem?_eq_getElem hn
  have e1 := fitA_all (z := 1) (by omega) n p _ h1 hx
  have e2 := fit_range p a[n]
  exact (h.2 n _ y hx h2 p).2 (by omega)
theorem Ref.con {x y : Ty} (hx : x.kind = 3) (hy : y.kind = 3) (hn : y.name = x.name) (h : RefL x.args y.args) : Ref x y := fun p => by
 have fx := free_no (p := x) (.inr hx)
 have fy := free_no (p := y) (.inr hy)
 by_cases hp : free p = true
 ·rw [fit_free hp, fit_free hp]
  exact ⟨id, id⟩
 have hp : free p = false := by simpa using hp
 rw [fit_eq p x, fit_eq p y, hp, fx, fy, hx, hy, hn, h.1]
 simp only [Bool.false_eq_true, if_false]
 by_cases hc : p.kind ≠ 3 ∨ (p.kind = 2 ∧ p.var ≠ x.var) ∨ (p.kind = 3 ∧ (p.name ≠ x.name ∨ p.args.length ≠ x.args.length))
 ·have hc2 : p.kind ≠ 3 ∨ (p.kind = 2 ∧ p.var ≠ y.var) ∨ (p.kind = 3 ∧ (p.name ≠ x.name ∨ p.args.length ≠ x.args.length)) := by
   rcases hc with h | h | h
   ·exact .inl h
   ·exact .inl (by omega)
   ·exact .inr (.inr h)
  rw [if_pos hc, if_pos hc2]
  exact ⟨id, id⟩
 ·have h3 : p.kind = 3 := Decidable.byContradiction fun e => hc (.inl e)
  have hc2 : ¬ (p.kind ≠ 3 ∨ (p.kind = 2 ∧ p.var ≠ y.var) ∨ (p.kind = 3 ∧ (p.name ≠ x.name ∨ p.args.length ≠ x.args.length))) := by
   intro h
   rcases h with h | h | h
   ·exact h h3
   ·omega
   ·exact hc (.inr (.inr h))
  have hl : p.args.length = x.args.length := Decidable.byContradiction fun e => hc (.inr (.inr ⟨h3, .inr e⟩))
  rw [if_neg hc, if_neg hc2, if_neg (by simpa using h3), if_neg (by simpa using h3)]
  exact h.fits p.args hl
inductive Rl : List Ty → Ty → Ty → Prop
 | any {l : List Ty} {v u : Ty} (h : free v = true) : Rl l v u
 | int {l : List Ty} {v u : Ty} (hv : v.kind = 2) (hu : u.kind = 2) (h : ∀ p ∈ l, p.kind = 2 → (p.var = v.var ↔ p.var = u.var)) : Rl l v u
 | con {l : List Ty} {v u : Ty} (hv : v.kind = 3) (hu : u.kind = 3) (hn : v.name = u.name) (hl : v.args.length = u.args.length) (h : ∀ (n : Nat) (a b : Ty), v.args[n]? = some a → u.args[n]? = some b → Rl (under l v.name n) a b) : Rl l v u
theorem Rl.mono {l' : List Ty} {v u : Ty} (h : Rl l' v u) : ∀ {l : List Ty}, sub l l' → Rl l v u := by
 induction h with
 | any h => exact fun _ => .any h
 | int hv hu h => exact fun hs => .int hv hu (fun p hp hk => h p (hs p hp (free_no (.inl hk))) hk)
 | con hv hu hn hl _ ih => exact fun hs => .con hv hu hn hl (fun n a b ha hb => ih n a b ha hb (hs.under _ _))
theorem Rl.fits {D : List Da} {l : List Ty} {v u : Ty} (h : Rl l v u) : ∀ {p : Ty}, p ∈ l → Wf D p → (fit p v = 1 → 0 ≤ fit p u) ∧ (fit p v = -1 → fit p u = -1) := by
 induction h with
 | any h =>
  intro p hp hw
  by_cases hf : free p = true
  ·rw [fit_free hf, fit_free hf]
   exact ⟨fun _ => by omega, id⟩
  ·rw [fit_unknown (by simpa using hf) h]
   exact ⟨fun e => by omega, fun e => by omega⟩
 | int hv hu h =>
  intro p hp hw
  by_cases hf : free p = true
  ·rw [fit_free hf, fit_free hf]
   exact ⟨fun _ => by omega, id⟩
  have hf : free p = false := by simpa using hf
  rcases hw.kinds hf with hk | hk
  ·rw [fit_int hk hv, fit_int hk hu]
   have e := h p hp hk
   constructor
   ·intro h1
    split at h1
    ·rename_i e1
     rw [if_pos (e.1 e1)]
     omega
    ·omega
   ·intro h1
    split at h1
    ·omega
    ·rename_i e1
     rw [if_neg (fun e2 => e1 (e.2 e2))]
  ·rw [fit_kind hf (free_no (.inl hv)) (by omega), fit_kind hf (free_no (.inl hu)) (by omega)]
   exact ⟨fun _ => by omega, id⟩
 | con hv hu hn hl h ih =>
  rename_i l v u
  intro p hp hw
  by_cases hf : free p = true
  ·rw [fit_free hf, fit_free hf]
   exact ⟨fun _ => by omega, id⟩
  have hf : free p = false := by simpa using hf
  rcases hw.kinds hf with hk | hk
  ·rw [fit_kind hf (free_no (.inr hv)) (by omega), fit_kind hf (free_no (.inr hu)) (by omega)]
   exact ⟨fun _ => by omega, id⟩
  ·by_cases hnm : p.name = v.name
   ·by_cases hpl : p.args.length = v.args.length
    ·rw [fit_con hk hv hnm hpl, fit_con hk hu (hnm.trans hn) (hpl.trans hl)]
     obtain ⟨_, _, _, _, hwa⟩ := hw.cons hk
     have hin : ∀ (n : Nat) (a : Ty), p.args[n]? = some a → a ∈ under l v.name n ∧ Wf D a := fun n a ha => ⟨under_mem.2 ⟨p, hp, hf, hnm, ha⟩, hwa a (List.mem_of_getElem? ha)⟩
     constructor
     ·intro e
      have hr := fitA_range p.args u.args
      by_cases hc : fitA p.args u.args = -1
      ·obtain ⟨n, a, b, h1, h2, h3⟩ := fitA_at (l := p.args) (vs := u.args) (by omega)
       have hn2 := (List.getElem?_eq_some_iff.1 h2).1
       have hx : v.args[n]? = some v.args[n] := List.getElem?_eq_getElem (by omega)
       obtain ⟨i1, i2⟩ := hin n a h1
       have e1 := fitA_all (z := 1) (by omega) n a _ h1 hx
       have e2 := fit_range a v.args[n]
       have := (ih n _ b hx h2 i1 i2).1 (by omega)
       omega
      ·omega
     ·intro e
      obtain ⟨n, a, b, h1, h2, h3⟩ := fitA_at (l := p.args) (vs := v.args) (by omega)
      have hn2 := (List.getElem?_eq_some_iff.1 h2).1
      have hx : u.args[n]? = some u.args[n] := List.getElem?_eq_getElem (by omega)
      obtain ⟨i1, i2⟩ := hin n a h1
      have e1 := (ih n b _ h2 hx i1 i2).2 (by omega)
      have hr := fitA_range p.args u.args
      by_cases hc : 0 ≤ fitA p.args u.args
      ·have := fitA_all hc n a _ h1 hx
       omega
      ·omega
    ·have e1 : fit p v = -1 := by rw [fit_eq, hf, free_no (.inr hv)]; simp [hk, hpl]
     have e2 : fit p u = -1 := by rw [fit_eq, hf, free_no (.inr hu)]; simp [hk, show ¬ p.args.length = u.args.length by omega]
     rw [e1, e2]
     exact ⟨fun _ => by omega, id⟩
   ·rw [fit_name hf hv hnm (.inr hk), fit_name hf hu (fun e => hnm (e.trans hn.symm)) (.inr hk)]
    exact ⟨fun _ => by omega, id⟩
/-! words -/
theorem words_mem : ∀ (l : List Ty) (ws : List Int) (n : Int), n ∈ l.foldl (fun ws q => if q.kind = 2 then addW ws q.var else ws) ws ↔ n ∈ ws ∨ ∃ p ∈ l, p.kind = 2 ∧ p.var = n
 | [], ws, n => by simp
 | q :: l, ws, n => by
  rw [List.foldl_cons, words_mem l]
  by_cases hq : q.kind = 2
  ·rw [if_pos hq]
   have : n ∈ addW ws q.var ↔ n ∈ ws ∨ q.var = n := by
    unfold addW
    by_cases hm : q.var ∈ ws
    ·rw [if_pos hm]
     exact ⟨.inl, fun h => h.elim id (fun e => e ▸ hm)⟩
    ·rw [if_neg hm]
     simp [eq_comm]
   rw [this]
   constructor
   ·rintro ((h | h) | ⟨p, h1, h2⟩)
    ·exact .inl h
    ·exact .inr ⟨q, .head _, hq, h⟩
    ·exact .inr ⟨p, .tail _ h1, h2⟩
   ·rintro (h | ⟨p, h1, h2, h3⟩)
    ·exact .inl (.inl h)
    ·rcases List.mem_cons.1 h1 with rfl | h1
     ·exact .inl (.inr h3)
     ·exact .inr ⟨p, h1, h2, h3⟩
  ·rw [if_neg hq]
   constructor
   ·rintro (h | ⟨p, h1, h2⟩)
    ·exact .inl h
    ·exact .inr ⟨p, .tail _ h1, h2⟩
   ·rintro (h | ⟨p, h1, h2, h3⟩)
    ·exact .inl h
    ·rcases List.mem_cons.1 h1 with rfl | h1
     ·exact absurd h2 hq
     ·exact .inr ⟨p, h1, h2, h3⟩
theorem wordsOf_mem {l : List Ty} {n : Int} : n ∈ wordsOf l ↔ ∃ p ∈ l, p.kind = 2 ∧ p.var = n := by
 unfold wordsOf
 rw [words_mem]
 simp
theorem kids_mem {l : List Ty} {a : List Ty} : a ∈ kids l ↔ ∃ p ∈ l, p.kind = 3 ∧ p.args = a := by
 unfold kids
 rw [List.mem_map]
 constructor
 ·rintro ⟨p, h1, h2⟩
  rw [List.mem_filter] at h1
  exact ⟨p, h1.1, of_decide_eq_true h1.2, h2⟩
 ·rintro ⟨p, h1, h2, h3⟩
  exact ⟨p, List.mem_filter.2 ⟨h1, decide_eq_true h2⟩, h3⟩
theorem alive_mem {rows : List (List Ty)} {vs r : List Ty} : r ∈ alive rows vs ↔ r ∈ rows ∧ 0 ≤ fitA r vs := by
 unfold alive
 rw [List.mem_filter, decide_eq_true_eq]
theorem unk_cases {D : List Da} (hU : Uniq D) {l : List Ty} (hw : ∀ p ∈ l, Wf D p) {x : Ty} (hx : x ∈ unk D l) : (∃ p d c, p ∈ l ∧ p.kind = 3 ∧ dOf D p.name = some d ∧ c ∈ consOf D d ∧ conAt D c.name = some (d, c) ∧ x = mkC c ∧ ∀ c' ∈ consOf D d, mkC c' ∈ unk D l) ∨ ((∀ p ∈ l, p.kind ≠ 3) ∧ ∃ p ∈ l, p.kind = 2 ∧ ∃ n, x = mkI n) := by
 unfold unk at hx ⊢
 cases hf : l.find? fun q => decide (q.kind = 3) with
 | some p =>
  rw [hf] at hx
  simp only [List.mem_map] at hx ⊢
  have h1 := List.mem_of_find?_eq_some hf
  have h2 := List.find?_some hf
  have h2 : p.kind = 3 := by simpa using h2
  obtain ⟨d, c0, e1, e2, _⟩ := (hw p h1).cons h2
  have hcf : consFor D [p] = consOf D d := by
   simp only [consFor]
   rw [e1]
  rw [hcf] at hx ⊢
  obtain ⟨c, hc, rfl⟩ := hx
  exact .inl ⟨p, d, c, h1, h2, dOf_of e1, hc, hU d c hc, rfl, fun c' hc' => ⟨c', hc', rfl⟩⟩
 | none =>
  rw [hf] at hx
  rw [List.find?_eq_none] at hf
  refine .inr ⟨fun p hp => by simpa using hf p hp, ?_⟩
  have hne : wordsOf l ≠ [] := fun e => by simp [unkI, e] at hx
  obtain ⟨n, hn⟩ := List.exists_mem_of_ne_nil _ hne
  obtain ⟨p, hp, hk, _⟩ := wordsOf_mem.1 hn
  refine ⟨p, hp, hk, ?_⟩
  unfold unkI at hx
  rw [if_neg hne] at hx
  rcases List.mem_append.1 hx with hx | hx
  ·obtain ⟨m, _, rfl⟩ := List.mem_map.1 hx
   exact ⟨m, rfl⟩
  ·rw [List.mem_singleton] at hx
   exact ⟨_, hx⟩
theorem unk_ne {D : List Da} {l : List Ty} (hw : ∀ p ∈ l, Wf D p) {p : Ty} (hp : p ∈ l) (hf : free p = false) : unk D l ≠ [] := by
 unfold unk
 cases hc : l.find? fun q => decide (q.kind = 3) with
 | some q =>
  simp only
  have h1 := List.mem_of_find?_eq_some hc
  have h2 := List.find?_some hc
  have h2 : q.kind = 3 := by simpa using h2
  obtain ⟨d, c0, e1, e2, _⟩ := (hw q h1).cons h2
  intro e
  rw [List.map_eq_nil_iff] at e
  simp only [consFor] at e
  rw [e1] at e
  have := (conAt_mem e1).1
  simp only at e
  rw [e] at this
  cases this
 | none =>
  simp only
  rw [List.find?_eq_none] at hc
  have h3 : ¬ p.kind = 3 := by simpa using hc p hp
  have h2 : p.kind = 2 := ((hw p hp).kinds hf).resolve_right h3
  intro e
  unfold unkI at e
  rw [List.append_eq_nil_iff, List.map_eq_nil_iff] at e
  have : p.var ∈ wordsOf l := wordsOf_mem.2 ⟨p, hp, h2, rfl⟩
  rw [e.1] at this
  cases this
theorem Agr.pair {D : List Da} {l : List Ty} (h : Agr D l) {p q : Ty} (hp : p ∈ l) (hq : q ∈ l) (h1 : free p = false) (h2 : free q = false) : p.kind = q.kind ∧ (p.kind = 3 → dOf D p.name = dOf D q.name) := by
 cases h with
 | mk hk _ => exact hk p hp q hq h1 h2
theorem unk_ok {D : List Da} (hU : Uniq D) {l la : List Ty} (hl : ∀ p ∈ l, p ∈ la) (hw : ∀ p ∈ la, Wf D p) (hA : Agr D la) {x : Ty} (hx : x ∈ unk D l) : Okv D la x := by
 rcases unk_cases hU (fun p hp => hw p (hl p hp)) hx with ⟨p, d, c, h1, h2, h3, h4, h5, rfl, _⟩ | ⟨_, p, hp, hk, n, rfl⟩
 ·refine .con rfl h5 (anys_len _) (fun q hq hqf => ?_) (fun n a ha => .fr (by rw [anys_get ha]; rfl))
  have e := hA.pair hq (hl p h1) hqf (free_no (.inr h2))
  have e1 : q.kind = 3 := by rw [e.1, h2]
  exact ⟨e1, by rw [e.2 e1, h3]⟩
 ·exact .int rfl (fun q hq hqf => by rw [(hA.pair hq (hl p hp) hqf (free_no (.inl hk))).1, hk])
structure OneP (D : List Da) (v : Ty) : Prop where
 ok : ∀ l la : List Ty, (∀ p ∈ l, p ∈ la) → (∀ p ∈ la, Wf D p) → Agr D la → (∀ p ∈ l, 0 ≤ fit p v) → Okv D la v → ∀ x ∈ splitOne D v l, Okv D la x ∧ Ref v x
 go : ∀ (l : List Ty) (u : Ty), (∀ p ∈ l, Wf D p) → Agr D l → (∀ p ∈ l, 0 ≤ fit p v) → Rl l v u → Okv D l u → splitOne D v l ≠ [] → ∃ x ∈ splitOne D v l, ∃ u', Rl l x u' ∧ Okv D l u' ∧ Ref u u' ∧ Ref v x
 ne : ∀ l : List Ty, (∀ p ∈ l, Wf D p) → (∀ p ∈ l, 0 ≤ fit p v) → (∃ p ∈ l, fit p v = 0) → splitOne D v l ≠ []
theorem set_get {vs : List Ty} {j n : Nat} {x y : Ty} (h : (vs.set j x)[n]? = some y) : (n = j ∧ y = x) ∨ (n ≠ j ∧ vs[n]? = some y) := by
 rw [List.getElem?_set] at h
 by_cases e : j = n
 ·rw [if_pos e] at h
  by_cases hl : j < vs.length
  ·rw [if_pos hl] at h
   exact .inl ⟨e.symm, (Option.some.inj h).symm⟩
  ·rw [if_neg hl] at h; cases h
 ·rw [if_neg e] at h
  exact .inr ⟨fun e' => e e'.symm, h⟩
theorem alive_fit {rows : List (List Ty)} {vs : List Ty} {k : Nat} {p x : Ty} (hp : p ∈ col (alive rows vs) k) (hx : vs[k]? = some x) : 0 ≤ fit p x := by
 obtain ⟨r, h1, h2⟩ := col_mem.1 hp
 exact fitA_all (alive_mem.1 h1).2 k p x h2 hx
theorem Split_mem {D : List Da} {rows : List (List Ty)} {vs w : List Ty} (h : w ∈ Split D rows vs) : ∃ j x y, vs[j]? = some x ∧ y ∈ splitOne D x (col (alive rows vs) j) ∧ w = vs.set j y := by
 unfold Split at h
 cases hs : splitL D vs 0 (alive rows vs) with
 | none => rw [hs] at h; cases h
 | some z =>
  obtain ⟨j, ps⟩ := z
  rw [hs] at h
  obtain ⟨y, hy, rfl⟩ := List.mem_map.1 h
  obtain ⟨i, x, h1, h2, h3, _⟩ := splitL_some D vs 0 _ j ps hs
  obtain rfl : j = i := by omega
  exact ⟨j, x, y, h2, by rw [← h3]; exact hy, rfl⟩
section
variable {D : List Da} {rows : List (List Ty)} {vs : List Ty}
theorem splitV_ok (hO : ∀ x ∈ vs, OneP D x) {L : Nat → List Ty} (hL : ∀ k, ∀ p ∈ col (alive rows vs) k, p ∈ L k) (hw : ∀ k, ∀ p ∈ L k, Wf D p) (hA : ∀ k, Agr D (L k)) (hok : ∀ (k : Nat) (x : Ty), vs[k]? = some x → Okv D (L k) x) {w : List Ty} (h : w ∈ Split D rows vs) : RefL vs w ∧ ∀ (k : Nat) (x : Ty), w[k]? = some x → Okv D (L k) x := by
 obtain ⟨j, x, y, hx, hy, rfl⟩ := Split_mem h
 obtain ⟨g1, g2⟩ := (hO x (List.mem_of_getElem? hx)).ok _ (L j) (hL j) (hw j) (hA j) (fun p hp => alive_fit hp hx) (hok j x hx) y hy
 refine ⟨⟨List.length_set, fun n a b ha hb => ?_⟩, fun k z hz => ?_⟩
 ·rcases set_get hb with ⟨rfl, rfl⟩ | ⟨_, hb⟩
  ·rw [hx] at ha
   cases ha
   exact g2
  ·rw [ha] at hb
   cases hb
   exact Ref.refl _
 ·rcases set_get hz with ⟨rfl, rfl⟩ | ⟨_, hz⟩
  ·exact g1
  ·exact hok k z hz
theorem splitV_go (hO : ∀ x ∈ vs, OneP D x) (hw : ∀ k, ∀ p ∈ col (alive rows vs) k, Wf D p) (hA : ∀ k, Agr D (col (alive rows vs) k)) {u : List Ty} (hl : vs.length = u.length) (hR : ∀ (k : Nat) (a b : Ty), vs[k]? = some a → u[k]? = some b → Rl (col (alive rows vs) k) a b) (hok : ∀ (k : Nat) (b : Ty), u[k]? = some b → Okv D (col (alive rows vs) k) b) (hne : Split D rows vs ≠ []) :
  ∃ w ∈ Split D rows vs, ∃ u' : List Ty, w.length = u'.length ∧ (∀ (k : Nat) (a b : Ty), w[k]? = some a → u'[k]? = some b → Rl (col (alive rows vs) k) a b) ∧ (∀ (k : Nat) (b : Ty), u'[k]? = some b → Okv D (col (alive rows vs) k) b) ∧ RefL u u' ∧ RefL vs w := by
 cases hs : splitL D vs 0 (alive rows vs) with
 | none => exact absurd (by unfold Split; rw [hs]) hne
 | some z =>
  obtain ⟨j, ps⟩ := z
  obtain ⟨i, x, h1, h2, h3, h4⟩ := splitL_some D vs 0 _ j ps hs
  obtain rfl : j = i := by omega
  have hj := (List.getElem?_eq_some_iff.1 h2).1
  have hu : u[j]? = some u[j] := List.getElem?_eq_getElem (by omega)
  rw [h3] at h4
  obtain ⟨y, hy, u', g1, g2, g3, g4⟩ := (hO x (List.mem_of_getElem? h2)).go _ u[j] (hw j) (hA j) (fun p hp => alive_fit hp h2) (hR j x _ h2 hu) (hok j _ hu) h4
  refine ⟨vs.set j y, ?_, u.set j u', by rw [List.length_set, List.length_set, hl], fun k a b ha hb => ?_, fun k b hb => ?_, ⟨List.length_set, fun n a b ha hb => ?_⟩, ⟨List.length_set, fun n a b ha hb => ?_⟩⟩
  ·unfold Split
   rw [hs]
   exact List.mem_map.2 ⟨y, by rw [h3]; exact hy, rfl⟩
  ·rcases set_get ha with ⟨rfl, rfl⟩ | ⟨hn, ha⟩
   ·rcases set_get hb with ⟨_, rfl⟩ | ⟨hn, _⟩
    ·exact g1
    ·exact absurd rfl hn
   ·rcases set_get hb with ⟨e, _⟩ | ⟨_, hb⟩
    ·exact absurd e hn
    ·exact hR k a b ha hb
  ·rcases set_get hb with ⟨rfl, rfl⟩ | ⟨_, hb⟩
   ·exact g2
   ·exact hok k b hb
  ·rcases set_get hb with ⟨rfl, rfl⟩ | ⟨_, hb⟩
   ·rw [hu] at ha
    cases ha
    exact g3
   ·rw [ha] at hb
    cases hb
    exact Ref.refl _
  ·rcases set_get hb with ⟨rfl, rfl⟩ | ⟨_, hb⟩
   ·rw [h2] at ha
    cases ha
    exact g4
   ·rw [ha] at hb
    cases hb
    exact Ref.refl _
theorem splitV_ne (hO : ∀ x ∈ vs, OneP D x) (hw : ∀ k, ∀ p ∈ col (alive rows vs) k, Wf D p) (h : ∃ r ∈ rows, fitA r vs = 0) : Split D rows vs ≠ [] := by
 obtain ⟨r, hr, h0⟩ := h
 obtain ⟨n, p, x, h1, h2, h3⟩ := fitA_at (l := r) (vs := vs) (by omega)
 have hra : r ∈ alive rows vs := alive_mem.2 ⟨hr, by omega⟩
 have hne := (hO x (List.mem_of_getElem? h2)).ne (col (alive rows vs) n) (hw n) (fun p hp => alive_fit hp h2) ⟨p, col_mem.2 ⟨r, hra, h1⟩, by omega⟩
 unfold Split
 cases hs : splitL D vs 0 (alive rows vs) with
 | none =>
  have := splitL_none D vs 0 _ hs n x h2
  rw [Nat.zero_add] at this
  exact absurd this hne
 | some z =>
  obtain ⟨j, ps⟩ := z
  obtain ⟨_, _, _, _, _, h4⟩ := splitL_some D vs 0 _ j ps hs
  intro e
  rw [List.map_eq_nil_iff] at e
  exact h4 e
end
theorem under_wf {D : List Da} {l : List Ty} (hw : ∀ p ∈ l, Wf D p) (hk : ∀ p ∈ l, free p = false → p.kind = 3) (nm : ByteArray) (k : Nat) : ∀ q ∈ under l nm k, Wf D q := fun q hq => by
 obtain ⟨p, g1, g2, g3, g4⟩ := under_mem.1 hq
 obtain ⟨_, _, _, _, h⟩ := (hw p g1).cons (hk p g1 g2)
 exact h q (List.mem_of_getElem? g4)
theorem one (D : List Da) (hU : Uniq D) : ∀ (m : Nat) (v : Ty), v.sz ≤ m → OneP D v
 | 0, .mk k nm n «as», h => by simp [Ty.sz] at h
 | m + 1, v, hm => by
  by_cases h3 : v.kind = 3
  ·have hvf := free_no (p := v) (.inr h3)
   have hO : ∀ x ∈ v.args, OneP D x := fun x hx => by
    obtain ⟨i, hi⟩ := List.mem_iff_getElem?.1 hx
    refine one D hU m x ?_
    have := Ty.sz_get hi
    cases v with
    | mk k nm n «as» =>
     simp only [Ty.sz] at hm
     simp only [Ty.args] at this
     omega
   have hcol : ∀ l : List Ty, (∀ p ∈ l, 0 ≤ fit p v) → (∀ k, ∀ q ∈ col (alive (kids l) v.args) k, q ∈ under l v.name k) ∧ ∀ k, ∀ q ∈ under l v.name k, q ∈ col (alive (kids l) v.args) k := fun l hl => by
    constructor
    ·intro k q hq
     obtain ⟨r, g1, g2⟩ := col_mem.1 hq
     obtain ⟨p, g3, g4, rfl⟩ := kids_mem.1 (alive_mem.1 g1).1
     have hpf := free_no (p := p) (.inr g4)
     exact under_mem.2 ⟨p, g3, hpf, ((fit_known hpf hvf (hl p g3)).2.2 g4).1, g2⟩
    ·intro k q hq
     obtain ⟨p, g1, g2, g3, g4⟩ := under_mem.1 hq
     obtain ⟨e1, _, e2⟩ := fit_known g2 hvf (hl p g1)
     have hk : p.kind = 3 := by rw [e1, h3]
     obtain ⟨_, _, e3⟩ := e2 hk
     exact col_mem.2 ⟨p.args, alive_mem.2 ⟨kids_mem.2 ⟨p, g1, hk, rfl⟩, by rw [← e3]; exact hl p g1⟩, g4⟩
   have hk3 : ∀ l : List Ty, (∀ p ∈ l, 0 ≤ fit p v) → ∀ p ∈ l, free p = false → p.kind = 3 := fun l hl p hp hf => by rw [(fit_known hf hvf (hl p hp)).1, h3]
   refine ⟨fun l la hla hw hA hal hok x hx => ?_, fun l u hw hA hal hR hok hne => ?_, fun l hw hal h0 => ?_⟩
   ·rw [splitOne_con D h3] at hx
    obtain ⟨w, hw1, rfl⟩ := List.mem_map.1 hx
    cases hok with
    | fr h => rw [hvf] at h; cases h
    | int h _ => omega
    | con _ hc hl hp ha =>
     obtain ⟨g1, g2⟩ := splitV_ok (L := fun k => under la v.name k) hO (fun k q hq => by
      obtain ⟨p, m1, m2, m3, m4⟩ := under_mem.1 ((hcol l hal).1 k q hq)
      exact under_mem.2 ⟨p, hla p m1, m2, m3, m4⟩) (fun k => under_wf hw (fun p hp1 hf => (hp p hp1 hf).1) _ _) (fun k => hA.under (fun p hp1 hf => (hp p hp1 hf).1) _ _) ha hw1
     exact ⟨.con rfl hc (by rw [← hl]; exact g1.1) hp g2, Ref.con h3 rfl rfl g1⟩
   ·rw [splitOne_con D h3] at hne ⊢
    have hne2 : Split D (kids l) v.args ≠ [] := fun e => hne (by rw [e]; rfl)
    obtain ⟨c1, c2⟩ := hcol l hal
    cases hR with
    | any h => rw [hvf] at h; cases h
    | int h _ _ => omega
    | con _ hu hn hl hR =>
     cases hok with
     | fr h => rw [free_no (.inr hu)] at h; cases h
     | int h _ => omega
     | con _ hc hl2 hp ha =>
      obtain ⟨w, hw1, u', w1, w2, w3, w4, w5⟩ := splitV_go (u := u.args) hO (fun k q hq => under_wf hw (hk3 l hal) _ _ q (c1 k q hq)) (fun k => (hA.under (hk3 l hal) v.name k).mono (sub.of (c1 k))) hl (fun k a b h1 h2 => (hR k a b h1 h2).mono (sub.of (c1 k))) (fun k b hb => (ha k b hb).mono (sub.of (fun q hq => by rw [← hn]; exact c1 k q hq))) hne2
      refine ⟨_, List.mem_map.2 ⟨w, hw1, rfl⟩, .mk 3 u.name 0 u', .con rfl rfl hn w1 (fun k a b h1 h2 => (w2 k a b h1 h2).mono (sub.of (c2 k))), .con rfl hc (by rw [← hl2]; exact w4.1) hp (fun k b hb => (w3 k b hb).mono (sub.of (fun q hq => c2 k q (by rw [hn]; exact hq)))), Ref.con hu rfl rfl w4, Ref.con h3 rfl rfl w5⟩
   ·obtain ⟨p, hp, h0⟩ := h0
    have hpf : free p = false := by
     cases hf : free p with
     | false => rfl
     | true => rw [fit_free hf] at h0; omega
    obtain ⟨e1, _, e2⟩ := fit_known hpf hvf (by omega)
    have hk : p.kind = 3 := by rw [e1, h3]
    obtain ⟨_, _, e3⟩ := e2 hk
    rw [splitOne_con D h3]
    intro e
    rw [List.map_eq_nil_iff] at e
    exact splitV_ne hO (fun k q hq => under_wf hw (hk3 l hal) _ _ q ((hcol l hal).1 k q hq)) ⟨p.args, kids_mem.2 ⟨p, hp, hk, rfl⟩, by omega⟩ e
  by_cases h2 : v.kind = 2
  ·have hvf := free_no (p := v) (.inl h2)
   refine ⟨fun l la _ _ _ _ _ x hx => ?_, fun l u _ _ _ _ _ hne => absurd (splitOne_int D h2 l) hne, fun l hw hal h0 => ?_⟩
   ·rw [splitOne_int D h2] at hx
    cases hx
   ·obtain ⟨p, hp, h0⟩ := h0
    have hpf : free p = false := by
     cases hf : free p with
     | false => rfl
     | true => rw [fit_free hf] at h0; omega
    obtain ⟨e1, _, _⟩ := fit_known hpf hvf (by omega)
    rw [fit_int (by omega) h2] at h0
    split at h0 <;> omega
  ·refine ⟨fun l la hla hw hA hal hok x hx => ?_, fun l u hw hA hal hR hok hne => ?_, fun l hw hal h0 => ?_⟩
   ·cases hok with
    | fr h =>
     rw [splitOne_unk D h] at hx
     exact ⟨unk_ok hU hla hw hA hx, Ref.of_free h x⟩
    | int h _ => exact absurd h h2
    | con h _ _ _ _ => exact absurd h h3
   ·cases hR with
    | int h _ _ => exact absurd h h2
    | con h _ _ _ _ => exact absurd h h3
    | any hv =>
     rw [splitOne_unk D hv] at hne ⊢
     obtain ⟨x0, hx0⟩ := List.exists_mem_of_ne_nil _ hne
     cases hok with
     | fr hu =>
      refine ⟨x0, hx0, x0, ?_, unk_ok hU (fun p hp => hp) hw hA hx0, Ref.of_free hu x0, Ref.of_free hv x0⟩
      rcases unk_cases hU hw hx0 with ⟨_, _, c, _, _, _, _, _, rfl, _⟩ | ⟨_, _, _, _, n, rfl⟩
      ·exact .con rfl rfl rfl rfl (fun n a b ha _ => .any (by rw [anys_get ha]; rfl))
      ·exact .int rfl rfl (fun p _ _ => Iff.rfl)
     | int hu hp =>
      have hno : l.find? (fun q => decide (q.kind = 3)) = none := by
       rw [List.find?_eq_none]
       intro q hq h
       have hq3 : q.kind = 3 := by simpa using h
       have := hp q hq (free_no (.inr hq3))
       omega
      have hun : unk D l = unkI (wordsOf l) := by unfold unk; rw [hno]
      rw [hun] at hne ⊢
      have hwn : wordsOf l ≠ [] := fun e => hne (by unfold unkI; rw [e]; rfl)
      by_cases hm : u.var ∈ wordsOf l
      ·refine ⟨mkI u.var, ?_, u, .int rfl hu (fun p _ _ => Iff.rfl), .int hu hp, Ref.refl u, Ref.of_free hv _⟩
       unfold unkI
       exact List.mem_append_left _ (List.mem_map.2 ⟨u.var, hm, rfl⟩)
      ·refine ⟨mkI (least (wordsOf l) : Int), ?_, u, .int rfl hu (fun p hp1 hk => ?_), .int hu hp, Ref.refl u, Ref.of_free hv _⟩
       ·unfold unkI
        rw [if_neg hwn]
        exact List.mem_append_right _ (.head _)
       ·have hpm : p.var ∈ wordsOf l := wordsOf_mem.2 ⟨p, hp1, hk, rfl⟩
        constructor
        ·intro e
         have e : p.var = (least (wordsOf l) : Int) := e
         exact absurd (e ▸ hpm) (least_no _)
        ·intro e
         exact absurd (e ▸ hpm) hm
     | con hu hc hl hp ha =>
      rename_i d c
      rcases unk_cases hU hw hx0 with ⟨p, d', c', h1, h2', h3', h4, h5, _, h6⟩ | ⟨_, p, hp1, hk, _⟩
      ·have e := (hp p h1 (free_no (.inr h2'))).2
       rw [h3'] at e
       cases e
       obtain ⟨m1, m2⟩ := conAt_mem hc
       exact ⟨mkC c, h6 c m1, u, .con rfl hu m2 (by rw [hl]; exact anys_len _) (fun n a b h1 _ => .any (by rw [anys_get h1]; rfl)), .con hu hc hl hp ha, Ref.refl u, Ref.of_free hv _⟩
      ·have := (hp p hp1 (free_no (.inl hk))).1
       omega
   ·obtain ⟨p, hp, h0⟩ := h0
    have hpf : free p = false := by
     cases hf : free p with
     | false => rfl
     | true => rw [fit_free hf] at h0; omega
    have hv : free v = true := by
     cases hf : free v with
     | true => rfl
     | false =>
      have e := (fit_known hpf hf (by omega)).1
      have := (hw p hp).kinds hpf
      omega
    rw [splitOne_unk D hv]
    exact unk_ne hw hp hpf
end Go.Pt

/- Plain: the reference's Cover finds what is missing, and which rows are useful. No program in sight. No condition. -/
namespace Go.Pt
open Go.Eng
def which : List (List Ty) → List Ty → Nat → Int
 | [], _, _ => -1
 | r :: rs, v, k => if fitA r v = 1 then (k : Int) else if fitA r v = 0 then -2 else which rs v (k + 1)
theorem which_cases : ∀ (rows : List (List Ty)) (v : List Ty) (k : Nat), (∃ (i : Nat) (r : List Ty), which rows v k = ((k + i : Nat) : Int) ∧ rows[i]? = some r ∧ fitA r v = 1 ∧ ∀ (j : Nat) (s : List Ty), j < i → rows[j]? = some s → fitA s v = -1) ∨ (which rows v k = -2 ∧ ∃ r ∈ rows, fitA r v = 0) ∨ (which rows v k = -1 ∧ ∀ r ∈ rows, fitA r v = -1)
 | [], v, k => .inr (.inr ⟨rfl, fun r hr => (by cases hr)⟩)
 | r :: rs, v, k => by
  rw [which]
  have hr := fitA_range r v
  by_cases h1 : fitA r v = 1
  ·rw [if_pos h1]
   exact .inl ⟨0, r, rfl, rfl, h1, fun j s hj => by omega⟩
  rw [if_neg h1]
  by_cases h0 : fitA r v = 0
  ·rw [if_pos h0]
   exact .inr (.inl ⟨rfl, r, .head _, h0⟩)
  rw [if_neg h0]
  have hn : fitA r v = -1 := by omega
  rcases which_cases rs v (k + 1) with ⟨i, s, g1, g2, g3, g4⟩ | ⟨g1, s, g2, g3⟩ | ⟨g1, g2⟩
  ·refine .inl ⟨i + 1, s, by rw [g1]; congr 1; omega, by simpa using g2, g3, fun j t hj ht => ?_⟩
   cases j with
   | zero =>
    simp only [List.getElem?_cons_zero, Option.some.injEq] at ht
    subst ht
    exact hn
   | succ j => exact g4 j t (by omega) (by simpa using ht)
  ·exact .inr (.inl ⟨g1, s, .tail _ g2, g3⟩)
  ·refine .inr (.inr ⟨g1, fun s hs => ?_⟩)
   rcases List.mem_cons.1 hs with rfl | hs
   ·exact hn
   ·exact g2 s hs
variable {D : List Da} {rows : List (List Ty)} {cols : Nat}
/-! known cases and a value that they stand for -/
structure Fol (D : List Da) (rows : List (List Ty)) (cols : Nat) (P : List Ty → Prop) (v : List Ty) : Prop where
 len : v.length = cols
 ex : ∃ u : List Ty, u.length = cols ∧ P u ∧ (∀ (k : Nat) (a b : Ty), v[k]? = some a → u[k]? = some b → Rl (col (alive rows v) k) a b) ∧ (∀ (k : Nat) (b : Ty), u[k]? = some b → Okv D (col (alive rows v) k) b) ∧ ∀ r ∈ rows, fitA r v = -1 → fitA r u = -1
theorem alive_sub (v : List Ty) (k : Nat) : ∀ p ∈ col (alive rows v) k, p ∈ col rows k := fun p hp => by
 obtain ⟨r, h1, h2⟩ := col_mem.1 hp
 exact col_mem.2 ⟨r, (alive_mem.1 h1).1, h2⟩
theorem Mat.wf_col (h : Mat D rows cols) (k : Nat) : ∀ p ∈ col rows k, Wf D p := fun p hp => by
 obtain ⟨r, h1, h2⟩ := col_mem.1 hp
 exact h.wf r h1 p (List.mem_of_getElem? h2)
theorem row_fits (h : Mat D rows cols) {v u : List Ty} (hv : v.length = cols) (hu : u.length = cols) {al : List (List Ty)} (hs : ∀ r ∈ al, r ∈ rows) (hR : ∀ (k : Nat) (a b : Ty), v[k]? = some a → u[k]? = some b → Rl (col al k) a b) {r : List Ty} (hr : r ∈ al) : (fitA r v = 1 → 0 ≤ fitA r u) ∧ (fitA r v = -1 → fitA r u = -1) := by
 have hin : ∀ (n : Nat) (p : Ty), r[n]? = some p → p ∈ col al n ∧ Wf D p := fun n p hp => ⟨col_mem.2 ⟨r, hr, hp⟩, h.wf r (hs r hr) p (List.mem_of_getElem? hp)⟩
 constructor
 ·intro e
  have hg := fitA_range r u
  by_cases hc : fitA r u = -1
  ·obtain ⟨n, p, y, h1, h2, h3⟩ := fitA_at (l := r) (vs := u) (by omega)
   have hn := (List.getElem?_eq_some_iff.1 h2).1
   have hnv : n < v.length := by omega
   have hx : v[n]? = some v[n] := List.getElem?_eq_getElem hnv
   obtain ⟨i1, i2⟩ := hin n p h1
   have e1 := fitA_all (z := 1) (by omega) n p _ h1 hx
   have e2 := fit_range p v[n]
   have := ((hR n _ y hx h2).fits i1 i2).1 (by omega)
   omega
  ·omega
 ·intro e
  obtain ⟨n, p, x, h1, h2, h3⟩ := fitA_at (l := r) (vs := v) (by omega)
  have hn := (List.getElem?_eq_some_iff.1 h2).1
  have hnu : n < u.length := by omega
  have hy : u[n]? = some u[n] := List.getElem?_eq_getElem hnu
  obtain ⟨i1, i2⟩ := hin n p h1
  have e1 := ((hR n x _ h2 hy).fits i1 i2).2 (by omega)
  have hg := fitA_range r u
  by_cases hc : 0 ≤ fitA r u
  ·have := fitA_all hc n p _ h1 hy
   omega
  ·omega
theorem Fol.step (hU : Uniq D) (h : Mat D rows cols) {P : List Ty → Prop} (hP : ∀ a b : List Ty, a.length = cols → P a → RefL a b → P b) {v : List Ty} (hF : Fol D rows cols P v) (h2 : which rows v 0 = -2) : ∃ w ∈ Split D rows v, Fol D rows cols P w := by
 obtain ⟨hl, u, hu, hPu, hR, hok, hd⟩ := hF
 have hO : ∀ x ∈ v, OneP D x := fun x _ => one D hU x.sz x (Nat.le_refl _)
 have h0 : ∃ r ∈ rows, fitA r v = 0 := by
  rcases which_cases rows v 0 with ⟨i, s, g1, _⟩ | ⟨_, g⟩ | ⟨g1, _⟩
  ·omega
  ·exact g
  ·omega
 have hw : ∀ k, ∀ p ∈ col (alive rows v) k, Wf D p := fun k p hp => h.wf_col k p (alive_sub v k p hp)
 obtain ⟨w, hw1, u', w1, w2, w3, w4, w5⟩ := splitV_go (u := u) hO hw (fun k => (h.agr k).mono (sub.of (alive_sub v k))) (by omega) hR hok (splitV_ne hO hw h0)
 have hwl : w.length = cols := by rw [w5.1, hl]
 have hul : u'.length = cols := by rw [w4.1, hu]
 have hal : ∀ k, ∀ p ∈ col (alive rows w) k, p ∈ col (alive rows v) k := fun k p hp => by
  obtain ⟨r, g1, g2⟩ := col_mem.1 hp
  obtain ⟨g3, g4⟩ := alive_mem.1 g1
  refine col_mem.2 ⟨r, alive_mem.2 ⟨g3, ?_⟩, g2⟩
  have hg := fitA_range r v
  by_cases hc : fitA r v = -1
  ·have := (w5.fits r (by rw [h.len r g3, hl])).1 hc
   omega
  ·omega
 refine ⟨w, hw1, hwl, u', hul, hP u u' hu hPu w4, fun k a b ha hb => (w2 k a b ha hb).mono (sub.of (hal k)), fun k b hb => (w3 k b hb).mono (sub.of (hal k)), fun r hr e => ?_⟩
 by_cases hc : 0 ≤ fitA r v
 ·exact (row_fits h hwl hul (fun r hr => (alive_mem.1 hr).1) w2 (alive_mem.2 ⟨hr, hc⟩)).2 e
 ·have hg := fitA_range r v
  exact (w4.fits r (by rw [h.len r hr, hu])).1 (hd r hr (by omega))
theorem Fol.start (h : Mat D rows cols) {P : List Ty → Prop} {u : List Ty} (hu : u.length = cols) (hPu : P u) (hok : OkV D rows u) : Fol D rows cols P (anys cols) :=
 ⟨anys_len _, u, hu, hPu, fun k a b ha _ => .any (by rw [anys_get ha]; rfl), fun k b hb => (hok k b hb).mono (sub.of (alive_sub _ k)), fun r hr e => by
  have : 0 ≤ fitA r (anys cols) := by
   have hg := fitA_range r (anys cols)
   by_cases hc : fitA r (anys cols) = -1
   ·obtain ⟨n, p, x, h1, h2, h3⟩ := fitA_at (l := r) (vs := anys cols) (by omega)
    rw [anys_get h2] at h3
    by_cases hp : free p = true
    ·rw [fit_free hp] at h3; omega
    ·rw [fit_unknown (by simpa using hp) rfl] at h3; omega
   ·omega
  omega⟩
def Typ (D : List Da) (rows : List (List Ty)) (cols : Nat) (v : List Ty) : Prop := v.length = cols ∧ OkV D rows v
theorem Typ.step (hU : Uniq D) (h : Mat D rows cols) {v : List Ty} (hT : Typ D rows cols v) : ∀ w ∈ Split D rows v, Typ D rows cols w := fun w hw => by
 obtain ⟨g1, g2⟩ := splitV_ok (L := fun k => col rows k) (fun x _ => one D hU x.sz x (Nat.le_refl _)) (fun k => alive_sub v k) (fun k => h.wf_col k) h.agr hT.2 hw
 exact ⟨by rw [g1.1]; exact hT.1, g2⟩
theorem Typ.start : Typ D rows cols (anys cols) := ⟨anys_len _, fun k x hx => .fr (by rw [anys_get hx]; rfl)⟩
end Go.Pt

/- Plain: what a node of a compiled tree says; narrowed values. No program in sight. No condition. -/
namespace Go.Pt
open Go.Eng Go.RowKit
variable {D : List Da}
mutual
def knownE : Ty → Bool
 | .mk k nm n l => (decide (k = 2) || decide (k = 3)) && knownL l
def knownL : List Ty → Bool
 | [] => true
 | p :: l => knownE p && knownL l
end
theorem knownE_eq (v : Ty) : knownE v = ((decide (v.kind = 2) || decide (v.kind = 3)) && knownL v.args) := by
 cases v
 rw [knownE]
 rfl
theorem knownL_mem : ∀ {l : List Ty}, knownL l = true → ∀ v ∈ l, knownE v = true
 | p :: l, h, v, hv => by
  rw [knownL, Bool.and_eq_true] at h
  rcases List.mem_cons.1 hv with rfl | hv
  ·exact h.1
  ·exact knownL_mem h.2 v hv
theorem known_kind {v : Ty} (h : knownE v = true) : (v.kind = 2 ∨ v.kind = 3) ∧ free v = false ∧ ∀ x ∈ v.args, knownE x = true := by
 rw [knownE_eq, Bool.and_eq_true, Bool.or_eq_true, decide_eq_true_eq, decide_eq_true_eq] at h
 exact ⟨h.1, free_no h.1, knownL_mem h.2⟩
/-! the first row that matches -/
def firstM : List RowP → List Ty → Int
 | [], _ => -1
 | r :: rs, V => if fitA r.2 V = 1 then r.1 else firstM rs V
theorem firstM_which (V : List Ty) : ∀ (k : Nat) (R : List (List Ty)), which R V k ≠ -2 → firstM (rowsFrom k R) V = which R V k
 | _, [], _ => rfl
 | k, r :: R, h => by
  rw [which] at h ⊢
  rw [rowsFrom, firstM]
  simp only
  by_cases h1 : fitA r V = 1
  ·rw [if_pos h1, if_pos h1]
  rw [if_neg h1] at h
  rw [if_neg h1, if_neg h1]
  by_cases h0 : fitA r V = 0
  ·rw [if_pos h0] at h
   exact absurd rfl h
  rw [if_neg h0] at h
  rw [if_neg h0]
  exact firstM_which V (k + 1) R h
theorem firstM_narrow {at_ many : Nat} {is : Ty → Bool} {VS VS2 : List Ty} : ∀ {rows : List RowP}, (∀ r ∈ rows, ∃ p, r.2[at_]? = some p ∧ (keepP is p = true → (fitA (cutR r.2 at_ p many) VS2 = 1 ↔ fitA r.2 VS = 1)) ∧ (keepP is p = false → fitA r.2 VS ≠ 1)) → firstM (narrowM at_ is many rows) VS2 = firstM rows VS
 | [], _ => rfl
 | r :: rs, h => by
  have ih := firstM_narrow (rows := rs) (fun x hx => h x (.tail _ hx))
  obtain ⟨p, hp, h1, h2⟩ := h r (.head _)
  unfold narrowM at ih ⊢
  rw [List.filterMap_cons, hp]
  simp only
  by_cases hk : keepP is p = true
  ·rw [if_pos hk]
   simp only
   rw [firstM, firstM, ih]
   by_cases hf : fitA r.2 VS = 1
   ·rw [if_pos hf, if_pos ((h1 hk).2 hf)]
   ·rw [if_neg hf, if_neg (fun e => hf ((h1 hk).1 e))]
  ·rw [if_neg hk, firstM, if_neg (h2 (by simpa using hk))]
   exact ih
theorem split_at {α : Type} {l : List α} {k : Nat} {p : α} (h : l[k]? = some p) : l = l.take k ++ ([p] ++ l.drop (k + 1)) := by
 have hl := (List.getElem?_eq_some_iff.1 h).1
 have he := (List.getElem?_eq_some_iff.1 h).2
 have h1 : l.drop k = p :: l.drop (k + 1) := by rw [List.drop_eq_getElem_cons hl, he]
 have h2 := List.take_append_drop k l
 rw [h1] at h2
 exact h2.symm
theorem fitA_cut {r VS : List Ty} {at_ many : Nat} {p v u : Ty} (hr : r[at_]? = some p) (hv : VS[at_]? = some v) (hl : r.length = VS.length) (hf : (fieldsOf p many).length = (fieldsOf u many).length) (hfit : fitA (fieldsOf p many) (fieldsOf u many) = 1 ↔ fit p v = 1) : fitA (cutR r at_ p many) (cutR VS at_ u many) = 1 ↔ fitA r VS = 1 := by
 have h1 : fitA (cutR r at_ p many) (cutR VS at_ u many) = min (fitA (r.take at_) (VS.take at_)) (min (fitA (r.drop (at_ + 1)) (VS.drop (at_ + 1))) (fitA (fieldsOf p many) (fieldsOf u many))) := by
  unfold cutR
  rw [fitA_app _ _ _ _ (by rw [List.length_take, List.length_take, hl]), fitA_app _ _ _ _ (by rw [List.length_drop, List.length_drop, hl])]
 have h2 : fitA r VS = min (fitA (r.take at_) (VS.take at_)) (min (fit p v) (fitA (r.drop (at_ + 1)) (VS.drop (at_ + 1)))) := by
  have e1 := split_at hr
  have e2 := split_at hv
  have h3 : fitA r VS = fitA (r.take at_ ++ ([p] ++ r.drop (at_ + 1))) (VS.take at_ ++ ([v] ++ VS.drop (at_ + 1))) := by rw [← e1, ← e2]
  rw [h3, fitA_app _ _ _ _ (by rw [List.length_take, List.length_take, hl])]
  rfl
 have r1 := fitA_range (r.take at_) (VS.take at_)
 have r2 := fitA_range (r.drop (at_ + 1)) (VS.drop (at_ + 1))
 have r3 := fitA_range (fieldsOf p many) (fieldsOf u many)
 have r4 := fit_range p v
 rw [h1, h2]
 constructor
 ·intro h
  have := hfit.1 (by omega)
  omega
 ·intro h
  have := hfit.2 (by omega)
  omega
/-! the value at a place -/
theorem atE_snoc {k : Nat} {y : Ty} : ∀ {p : List Int} {a : Ty} {vs : List Ty} {x : Ty}, 0 < p.length → atE a vs p = some x → x.args[k]? = some y → atE a vs (p ++ [(k : Int)]) = some y
 | [], _, _, _, h, _, _ => absurd h (by simp)
 | [n], a, vs, x, _, h, hy => by
  rw [atE] at h
  simp only [List.cons_append, List.nil_append]
  rw [atE]
  cases hn : vs[n.toNat]? with
  | none => rw [hn] at h; cases h
  | some z =>
   rw [hn] at h
   have h : some z = some x := h
   obtain rfl := Option.some.inj h
   show atE z z.args [(k : Int)] = some y
   rw [atE, Int.toNat_natCast, hy]
   rfl
 | n :: m :: p, a, vs, x, _, h, hy => by
  rw [atE] at h
  rw [List.cons_append, atE]
  cases hn : vs[n.toNat]? with
  | none => rw [hn] at h; cases h
  | some z =>
   rw [hn] at h
   simp only at h ⊢
   exact atE_snoc (by simp) h hy
theorem belowM_lo {paths : List (List Int)} {at_ k many : Nat} (h : at_ < paths.length) (hk : k < at_) : (belowM paths at_ many)[k]? = paths[k]? := by
 unfold belowM
 rw [List.getElem?_append_left (by rw [List.length_take]; omega), List.getElem?_take, if_pos hk]
theorem belowM_mid {paths : List (List Int)} {at_ k many : Nat} (h : at_ < paths.length) (hk : at_ ≤ k) (hk2 : k < paths.length - 1) : (belowM paths at_ many)[k]? = paths[k + 1]? := by
 unfold belowM
 rw [List.getElem?_append_right (by rw [List.length_take]; omega), List.length_take, Nat.min_eq_left (by omega), List.getElem?_append_left (by rw [List.length_drop]; omega), List.getElem?_drop]
 congr 1
 omega
theorem belowM_hi {paths : List (List Int)} {at_ k many : Nat} (h : at_ < paths.length) (hk : paths.length - 1 ≤ k) (hk2 : k - (paths.length - 1) < many) : (belowM paths at_ many)[k]? = some (paths.getD at_ [] ++ [((k - (paths.length - 1) : Nat) : Int)]) := by
 unfold belowM
 rw [List.getElem?_append_right (by rw [List.length_take]; omega), List.length_take, Nat.min_eq_left (by omega), List.getElem?_append_right (by rw [List.length_drop]; omega), List.length_drop, List.getElem?_map]
 have e : k - at_ - (paths.length - (at_ + 1)) = k - (paths.length - 1) := by omega
 rw [e, List.getElem?_range hk2]
 rfl
/-! the values stand under the rows -/
structure Fits (D : List Da) (V : List Ty) (rows : List RowP) (paths : List (List Int)) (VS : List Ty) : Prop where
 mat : Mat D (VS :: rowsOf rows) paths.length
 kn : ∀ v ∈ VS, knownE v = true
 pl : ∀ p ∈ paths, 0 < p.length
 at_ : ∀ (k : Nat) (p : List Int) (v : Ty), paths[k]? = some p → VS[k]? = some v → atE anyT V p = some v
theorem Fits.len {V : List Ty} {rows : List RowP} {paths : List (List Int)} {VS : List Ty} (h : Fits D V rows paths VS) : VS.length = paths.length := h.mat.len VS (.head _)
theorem Fits.get {V : List Ty} {rows : List RowP} {paths : List (List Int)} {VS : List Ty} {at_ : Nat} (h : Fits D V rows paths VS) (ha : at_ < paths.length) : ∃ v, VS[at_]? = some v ∧ knownE v = true ∧ free v = false ∧ (v.kind = 2 ∨ v.kind = 3) ∧ Wf D v ∧ atE anyT V (paths.getD at_ []) = some v := by
 have hl := h.len
 have hv : VS[at_]? = some VS[at_] := List.getElem?_eq_getElem (by omega)
 have hm := List.mem_of_getElem? hv
 obtain ⟨h1, h2, _⟩ := known_kind (h.kn _ hm)
 refine ⟨_, hv, h.kn _ hm, h2, h1, h.mat.wf VS (.head _) _ hm, ?_⟩
 have hp : paths[at_]? = some paths[at_] := List.getElem?_eq_getElem ha
 have := h.at_ at_ _ _ hp hv
 rw [List.getD_eq_getElem?_getD, hp]
 exact this
theorem Fits.below {V : List Ty} {rows rows2 : List RowP} {paths : List (List Int)} {VS : List Ty} {at_ many : Nat} {v u : Ty} (h : Fits D V rows paths VS) (ha : at_ < paths.length) (hv : VS[at_]? = some v) (hl : (fieldsOf u many).length = many) (hu : ∀ (k : Nat) (x : Ty), (fieldsOf u many)[k]? = some x → v.args[k]? = some x) (hm : Mat D (cutR VS at_ u many :: rowsOf rows2) (paths.length - 1 + many)) : Fits D V rows2 (belowM paths at_ many) (cutR VS at_ u many) := by
 have hvl := h.len
 have hbl := belowM_len (many := many) ha
 have hcl := cutR_len (r := VS) (at_ := at_) (p := u) (many := many) (by omega) hl
 have hp : paths[at_]? = some paths[at_] := List.getElem?_eq_getElem ha
 have hpd : paths.getD at_ [] = paths[at_] := by rw [List.getD_eq_getElem?_getD, hp]; rfl
 have hpa := h.at_ at_ _ _ hp hv
 have hp0 := h.pl _ (List.mem_of_getElem? hp)
 have hkv := (known_kind (h.kn v (List.mem_of_getElem? hv))).2.2
 refine ⟨by rw [hbl]; exact hm, fun x hx => ?_, fun p hpm => ?_, fun k p x hkp hkx => ?_⟩
 ·unfold cutR at hx
  rcases List.mem_append.1 hx with hx | hx
  ·exact h.kn x (List.mem_of_mem_take hx)
  rcases List.mem_append.1 hx with hx | hx
  ·exact h.kn x (List.mem_of_mem_drop hx)
  obtain ⟨k, hk⟩ := List.mem_iff_getElem?.1 hx
  exact hkv x (List.mem_of_getElem? (hu k x hk))
 ·unfold belowM at hpm
  rcases List.mem_append.1 hpm with hx | hx
  ·exact h.pl p (List.mem_of_mem_take hx)
  rcases List.mem_append.1 hx with hx | hx
  ·exact h.pl p (List.mem_of_mem_drop hx)
  obtain ⟨k, _, rfl⟩ := List.mem_map.1 hx
  simp
 ·by_cases h1 : k < at_
  ·rw [belowM_lo ha h1] at hkp
   rw [cutR_lo (by omega) h1] at hkx
   exact h.at_ k p x hkp hkx
  by_cases h2 : k < paths.length - 1
  ·rw [belowM_mid ha (by omega) h2] at hkp
   rw [cutR_mid (by omega) (by omega) (by omega)] at hkx
   exact h.at_ (k + 1) p x hkp hkx
  have h3 : k - (paths.length - 1) < many := by
   have := (List.getElem?_eq_some_iff.1 hkp).1
   rw [hbl] at this
   omega
  rw [belowM_hi ha (by omega) h3] at hkp
  rw [cutR_hi (by omega) (by omega), hvl] at hkx
  obtain rfl := Option.some.inj hkp
  rw [hpd]
  exact atE_snoc hp0 hpa (hu _ x hkx)
/-! what a node says -/
def Says (V : List Ty) (out : List Pt.Nd) (k : Nat) (z : Int) : Prop := ∀ t : List Pt.Nd, (∀ j, j ≤ k → t[j]? = out[j]?) → ∀ F, k < F → runE t V F k = (z, 0)
def OutOk (D : List Da) (out : List Pt.Nd) : Prop := ∀ (k : Nat) (x : Pt.Nd), out[k]? = some x → NodeOk D k x
structure Grow (s s' : St) : Prop where
 out : ∃ l, s'.out = s.out ++ l
 full : s'.full = false → s.full = false
theorem Grow.refl (s : St) : Grow s s := ⟨⟨[], by simp⟩, id⟩
theorem Grow.trans {s s' s2 : St} (h : Grow s s') (h2 : Grow s' s2) : Grow s s2 := by
 obtain ⟨l, e⟩ := h.out
 obtain ⟨l2, e2⟩ := h2.out
 exact ⟨⟨l ++ l2, by rw [e2, e, List.append_assoc]⟩, fun hf => h.full (h2.full hf)⟩
theorem Grow.get {s s' : St} (h : Grow s s') {k : Nat} (hk : k < s.out.length) : s'.out[k]? = s.out[k]? := by
 obtain ⟨l, e⟩ := h.out
 rw [e, List.getElem?_append_left hk]
theorem Grow.len {s s' : St} (h : Grow s s') : s.out.length ≤ s'.out.length := by
 obtain ⟨l, e⟩ := h.out
 rw [e, List.length_append]
 omega
theorem Says.grow {V : List Ty} {s s' : St} {k : Nat} {z : Int} (h : Says V s.out k z) (hk : k < s.out.length) (g : Grow s s') : Says V s'.out k z := fun t ht F hF => h t (fun j hj => by rw [ht j hj, g.get (by omega)]) F hF
structure InM (D : List Da) (rows : List RowP) (paths : List (List Int)) : Prop where
 mat : Mat D (rowsOf rows) paths.length
 row : ∀ r ∈ rows, 0 ≤ r.1
 pat : ∀ r ∈ rows, ∀ p ∈ r.2, patE D p = 0
 pth : ∀ p ∈ paths, 0 < p.length ∧ ∀ n ∈ p, 0 ≤ n
def Ans (D : List Da) (V : List Ty) (rows : List RowP) (paths : List (List Int)) (s' : St) (m : Nat) : Prop := m < s'.out.length ∧ (s'.full = false → ∀ VS, Fits D V rows paths VS → Says V s'.out m (firstM rows VS))
theorem Ans.grow {V : List Ty} {rows : List RowP} {paths : List (List Int)} {s s' : St} {m : Nat} (h : Ans D V rows paths s m) (g : Grow s s') : Ans D V rows paths s' m :=
 ⟨Nat.lt_of_lt_of_le h.1 g.len, fun hf VS hV => (h.2 (g.full hf) VS hV).grow h.1 g⟩
structure Res (D : List Da) (V : List Ty) (s : St) (rows : List RowP) (paths : List (List Int)) (r : St × Int) : Prop where
 ok : OutOk D r.1.out
 gr : Grow s r.1
 an : ∃ m : Nat, r.2 = (m : Int) ∧ Ans D V rows paths r.1 m
theorem addN_ok {s : St} {x : Pt.Nd} (h : OutOk D s.out) (hx : NodeOk D s.out.length x) : OutOk D (addN s x).1.out ∧ Grow s (addN s x).1 ∧ (addN s x).1.full = s.full ∧ ∃ k : Nat, (addN s x).2 = (k : Int) ∧ k < (addN s x).1.out.length ∧ (addN s x).1.out[k]? = some x := by
 unfold addN
 split
 ·rename_i h0
  unfold idN at h0 ⊢
  rcases idxP_cases (fun y => sameN y x) s.out 0 with ⟨h1, _⟩ | ⟨i, y, h1, h2, h3, _⟩
  ·omega
  ·refine ⟨h, Grow.refl s, rfl, i, by rw [h3, Nat.zero_add], (List.getElem?_eq_some_iff.1 h1).1, ?_⟩
   rw [h1, sameN_eq.1 h2]
 ·refine ⟨fun k y hy => ?_, ⟨⟨[x], rfl⟩, id⟩, rfl, s.out.length, rfl, by simp, by simp⟩
  have hy : (s.out ++ [x])[k]? = some y := hy
  by_cases hk : k < s.out.length
  ·rw [List.getElem?_append_left hk] at hy
   exact h k y hy
  ·have h1 := (List.getElem?_eq_some_iff.1 hy).1
   rw [List.length_append, List.length_singleton] at h1
   obtain rfl : k = s.out.length := by omega
   rw [List.getElem?_append_right (Nat.le_refl _), Nat.sub_self] at hy
   obtain rfl := Option.some.inj hy
   exact hx
theorem leaf_res {V : List Ty} {s s0 : St} {x : Pt.Nd} {rows : List RowP} {paths : List (List Int)} (h : OutOk D s.out) (hg : Grow s0 s) (hx : NodeOk D s.out.length x) (hk : x.kind = 0 ∨ x.kind = 1) (hz : s.full = false → ∀ VS, Fits D V rows paths VS → (if x.kind = 0 then -1 else x.row) = firstM rows VS) : Res D V s0 rows paths (addN s x) := by
 obtain ⟨h1, h2, h3, k, h4, h5, h6⟩ := addN_ok h hx
 refine ⟨h1, hg.trans h2, k, h4, h5, fun hf VS hV t ht F hF => ?_⟩
 obtain ⟨f, rfl⟩ : ∃ f, F = f + 1 := ⟨F - 1, by omega⟩
 rw [runE, ht k (Nat.le_refl _), h6]
 simp only
 rw [← hz (by rw [← h3]; exact hf) VS hV]
 rcases hk with hk | hk
 ·rw [if_pos hk, if_pos hk]
 ·rw [if_neg (by omega), if_pos hk, if_neg (by omega)]
theorem node_res {V : List Ty} {s s0 : St} {x : Pt.Nd} {rows : List RowP} {paths : List (List Int)} (h : OutOk D s.out) (hg : Grow s0 s) (hx : NodeOk D s.out.length x) (hk : x.kind = 2 ∨ x.kind = 3) (hz : s.full = false → ∀ VS, Fits D V rows paths VS → ∃ v, atE anyT V x.path = some v ∧ (x.kind = 3 → v.kind = 2) ∧ (x.kind ≠ 3 → v.kind = 3) ∧ ∃ m : Nat, x.kids[pickK x v]? = some (m : Int) ∧ m < s.out.length ∧ Says V s.out m (firstM rows VS)) : Res D V s0 rows paths (addN s x) := by
 obtain ⟨h1, h2, h3, k, h4, h5, h6⟩ := addN_ok h hx
 refine ⟨h1, hg.trans h2, k, h4, h5, fun hf VS hV t ht F hF => ?_⟩
 obtain ⟨f, rfl⟩ : ∃ f, F = f + 1 := ⟨F - 1, by omega⟩
 obtain ⟨v, hv, hv2, hv3, m, hm, hml, hs⟩ := hz (by rw [← h3]; exact hf) VS hV
 obtain ⟨d, _, _, _, _, _, _, _, hkids⟩ := h1 k x h6
 have hmk := (hkids _ _ hm).2.2
 rw [runE, ht k (Nat.le_refl _), h6]
 simp only
 rw [if_neg (by omega), if_neg (by omega), hv]
 simp only
 have hgd : x.kids.getD (pickK x v) 0 = (m : Int) := by rw [List.getD_eq_getElem?_getD, hm]; rfl
 rw [if_neg (fun hc => by
  rcases hc with ⟨a, b⟩ | ⟨a, b⟩
  ·exact b (hv2 a)
  ·exact b (hv3 a)), hgd, if_neg (by omega), Int.toNat_natCast]
 exact (hs.grow hml h2) t (fun j hj => ht j (by omega)) f (by omega)
end Go.Pt

/- Plain: what the builder makes answers with the first row that matches. No program in sight. No condition. -/
namespace Go.Pt
open Go.Eng Go.RowKit
variable {D : List Da}
theorem patL_all {D : List Da} : ∀ {l : List Ty}, patL D l = 0 → ∀ p ∈ l, patE D p = 0
 | q :: l, h, p, hp => by
  rw [patL] at h
  by_cases h1 : patE D q = 0
  ·rw [if_pos h1] at h
   rcases List.mem_cons.1 hp with rfl | hp
   ·exact h1
   ·exact patL_all h p hp
  ·rw [if_neg h1] at h
   exact absurd h h1
theorem patR_all {D : List Da} : ∀ {l : List (List Ty)}, patR D l = 0 → ∀ r ∈ l, ∀ p ∈ r, patE D p = 0
 | q :: l, h, r, hr => by
  rw [patR] at h
  by_cases h1 : patL D q = 0
  ·rw [if_pos h1] at h
   rcases List.mem_cons.1 hr with rfl | hr
   ·exact patL_all h1
   ·exact patR_all h r hr
  ·rw [if_neg h1] at h
   exact absurd h h1
theorem patE_args {p : Ty} (h : patE D p = 0) (hk : p.kind = 3) : ∀ a ∈ p.args, patE D a = 0 := by
 cases p with
 | mk k nm n l =>
  have hk : k = 3 := hk
  subst hk
  rw [patE, if_neg (by decide), if_neg (by decide), if_pos rfl] at h
  cases hc : conAt D nm with
  | none => rw [hc] at h; cases h
  | some z =>
   rw [hc] at h
   simp only at h
   by_cases h4 : l.length = z.2.many
   ·rw [if_pos h4] at h
    exact patL_all h
   ·rw [if_neg h4] at h; cases h
theorem patE_int {p : Ty} (h : patE D p = 0) (hk : p.kind = 2) : -1073741824 ≤ p.var ∧ p.var ≤ 1073741823 := by
 cases p with
 | mk k nm n l =>
  have hk : k = 2 := hk
  subst hk
  rw [patE, if_neg (by decide), if_pos rfl] at h
  by_cases h3 : n < -1073741824 ∨ 1073741823 < n
  ·rw [if_pos h3] at h; cases h
  ·show -1073741824 ≤ n ∧ n ≤ 1073741823
   omega
theorem patE_any : patE D anyT = 0 := by
 unfold anyT
 rw [patE, if_pos (.inl rfl)]
theorem Mat.at_pair {rows : List (List Ty)} {cols k : Nat} (h : Mat D rows cols) {r r' : List Ty} {p q : Ty} (hr : r ∈ rows) (hr' : r' ∈ rows) (hp : r[k]? = some p) (hq : r'[k]? = some q) (h1 : free p = false) (h2 : free q = false) : p.kind = q.kind ∧ (p.kind = 3 → dOf D p.name = dOf D q.name) :=
 (h.agr k).pair (col_mem.2 ⟨r, hr, hp⟩) (col_mem.2 ⟨r', hr', hq⟩) h1 h2
theorem wt_field {p : Ty} {many : Nat} (h : free p = false) : wtA (fieldsOf p many) + 1 ≤ wt p := by
 rw [wt_eq, h]
 unfold fieldsOf
 split
 ·simp
  omega
 ·rw [wtA_anys]
  simp
  omega
theorem InM.narrow {rows : List RowP} {paths : List (List Int)} {at_ many : Nat} {is : Ty → Bool} {nm : ByteArray} (h : InM D rows paths) (ha : at_ < paths.length) (hk : ∀ r ∈ rows, ∀ p, r.2[at_]? = some p → free p = false → is p = true → p.kind = 3 → p.name = nm ∧ p.args.length = many) (h3 : 0 < many → ∀ r ∈ rows, ∀ p, r.2[at_]? = some p → free p = false → p.kind = 3) : InM D (narrowM at_ is many rows) (belowM paths at_ many) := by
 refine ⟨by rw [belowM_len ha]; exact narrowM_mat h.mat ha hk h3, fun x hx => ?_, fun x hx q hq => ?_, fun p hp => ?_⟩
 ·obtain ⟨r, hr, p, _, _, rfl⟩ := narrowM_mem.1 hx
  exact h.row r hr
 ·obtain ⟨r, hr, p, hp, _, rfl⟩ := narrowM_mem.1 hx
  have hq : q ∈ cutR r.2 at_ p many := hq
  unfold cutR at hq
  rcases List.mem_append.1 hq with hq | hq
  ·exact h.pat r hr q (List.mem_of_mem_take hq)
  rcases List.mem_append.1 hq with hq | hq
  ·exact h.pat r hr q (List.mem_of_mem_drop hq)
  unfold fieldsOf at hq
  split at hq
  ·rename_i hc
   exact patE_args (h.pat r hr p (List.mem_of_getElem? hp)) hc.2 q hq
  ·obtain rfl := List.eq_of_mem_replicate hq
   exact patE_any
 ·unfold belowM at hp
  rcases List.mem_append.1 hp with hp | hp
  ·exact h.pth p (List.mem_of_mem_take hp)
  rcases List.mem_append.1 hp with hp | hp
  ·exact h.pth p (List.mem_of_mem_drop hp)
  obtain ⟨k, _, rfl⟩ := List.mem_map.1 hp
  have hpa : paths[at_]? = some paths[at_] := List.getElem?_eq_getElem ha
  have hpd : paths.getD at_ [] = paths[at_] := by rw [List.getD_eq_getElem?_getD, hpa]; rfl
  rw [hpd]
  refine ⟨by simp, fun n hn => ?_⟩
  rcases List.mem_append.1 hn with hn | hn
  ·exact (h.pth _ (List.mem_of_getElem? hpa)).2 n hn
  ·obtain rfl := List.mem_singleton.1 hn
   omega
/-! the loops -/
def EntW (D : List Da) (V : List Ty) (rows : List RowP) (paths : List (List Int)) (at_ : Nat) (s : St) (e : Int × Int) : Prop := (-1073741824 ≤ e.1 ∧ e.1 ≤ 1073741823) ∧ ∃ m : Nat, e.2 = (m : Int) ∧ Ans D V (narrowM at_ (isW e.1) 0 rows) (belowM paths at_ 0) s m
theorem EntW.grow {V : List Ty} {rows : List RowP} {paths : List (List Int)} {at_ : Nat} {s s' : St} {e : Int × Int} (h : EntW D V rows paths at_ s e) (g : Grow s s') : EntW D V rows paths at_ s' e := by
 obtain ⟨h1, m, h2, h3⟩ := h
 exact ⟨h1, m, h2, h3.grow g⟩
def EntC (D : List Da) (V : List Ty) (rows : List RowP) (paths : List (List Int)) (at_ : Nat) (CS : List Co) (s : St) (e : ByteArray × Int) : Prop := ∃ c ∈ CS, c.name = e.1 ∧ ∃ m : Nat, e.2 = (m : Int) ∧ Ans D V (narrowM at_ (isC c.name) c.many rows) (belowM paths at_ c.many) s m
theorem EntC.grow {V : List Ty} {rows : List RowP} {paths : List (List Int)} {at_ : Nat} {CS : List Co} {s s' : St} {e : ByteArray × Int} (h : EntC D V rows paths at_ CS s e) (g : Grow s s') : EntC D V rows paths at_ CS s' e := by
 obtain ⟨c, h0, h1, m, h2, h3⟩ := h
 exact ⟨c, h0, h1, m, h2, h3.grow g⟩
theorem wordsL_ok {V : List Ty} {rec : RecF} {rows : List RowP} {paths : List (List Int)} {at_ : Nat} (hrec : ∀ s : St, OutOk D s.out → ∀ n : Int, Res D V s (narrowM at_ (isW n) 0 rows) (belowM paths at_ 0) (rec s (narrowM at_ (isW n) 0 rows) (belowM paths at_ 0))) (hrg : ∀ r ∈ rows, ∀ p, r.2[at_]? = some p → free p = false → -1073741824 ≤ p.var ∧ p.var ≤ 1073741823) : ∀ (rs : List RowP) (s : St) (E : List (Int × Int)), (∀ r ∈ rs, r ∈ rows) → OutOk D s.out → (∀ e ∈ E, EntW D V rows paths at_ s e) → (E.map Prod.fst).Nodup → ∃ (s' : St) (E' : List (Int × Int)), wordsL rec rows paths at_ rs s (E.map Prod.fst) (E.map Prod.snd) = (s', E'.map Prod.fst, E'.map Prod.snd) ∧ OutOk D s'.out ∧ Grow s s' ∧ (∀ e ∈ E', EntW D V rows paths at_ s' e) ∧ (E'.map Prod.fst).Nodup ∧ (∀ n ∈ E.map Prod.fst, n ∈ E'.map Prod.fst) ∧ ∀ r ∈ rs, ∀ p, r.2[at_]? = some p → free p = false → p.var ∈ E'.map Prod.fst
 | [], s, E, _, hs, hE, hn => ⟨s, E, rfl, hs, Grow.refl s, hE, hn, fun n h => h, fun r hr => by cases hr⟩
 | r :: rs, s, E, hsub, hs, hE, hn => by
  have hsub2 : ∀ x ∈ rs, x ∈ rows := fun x hx => hsub x (.tail _ hx)
  rw [wordsL]
  cases hp : r.2[at_]? with
  | none =>
   obtain ⟨s', E', h1, h2, h3, h4, h5, h6, h7⟩ := wordsL_ok hrec hrg rs s E hsub2 hs hE hn
   refine ⟨s', E', h1, h2, h3, h4, h5, h6, fun x hx p hxp hf => ?_⟩
   rcases List.mem_cons.1 hx with rfl | hx
   ·rw [hp] at hxp; cases hxp
   ·exact h7 x hx p hxp hf
  | some p =>
   simp only
   by_cases hc : free p = true ∨ p.var ∈ E.map Prod.fst
   ·rw [if_pos (by rw [Bool.or_eq_true, decide_eq_true_eq]; exact hc)]
    obtain ⟨s', E', h1, h2, h3, h4, h5, h6, h7⟩ := wordsL_ok hrec hrg rs s E hsub2 hs hE hn
    refine ⟨s', E', h1, h2, h3, h4, h5, h6, fun x hx q hxq hf => ?_⟩
    rcases List.mem_cons.1 hx with rfl | hx
    ·rw [hp] at hxq
     obtain rfl := Option.some.inj hxq
     rcases hc with hc | hc
     ·rw [hc] at hf; cases hf
     ·exact h6 _ hc
    ·exact h7 x hx q hxq hf
   ·have hf : free p = false := by
     cases h : free p with
     | false => rfl
     | true => exact absurd (.inl h) hc
    have hni : p.var ∉ E.map Prod.fst := fun h => hc (.inr h)
    rw [if_neg (by rw [Bool.or_eq_true, decide_eq_true_eq]; exact hc)]
    obtain ⟨R1, hR1⟩ : ∃ R1, rec s (narrowM at_ (isW p.var) 0 rows) (belowM paths at_ 0) = R1 := ⟨_, rfl⟩
    have hres := hrec s hs p.var
    rw [hR1] at hres ⊢
    obtain ⟨m, hm, hans⟩ := hres.an
    have hE2 : ∀ e ∈ E ++ [(p.var, R1.2)], EntW D V rows paths at_ R1.1 e := fun e he => by
     rcases List.mem_append.1 he with he | he
     ·exact (hE e he).grow hres.gr
     ·obtain rfl := List.mem_singleton.1 he
      exact ⟨hrg r (hsub r (.head _)) p hp hf, m, hm, hans⟩
    have hn2 : ((E ++ [(p.var, R1.2)]).map Prod.fst).Nodup := by
     rw [List.map_append, List.nodup_append]
     refine ⟨hn, by simp, fun a ha b hb e => ?_⟩
     obtain rfl := List.mem_singleton.1 hb
     subst e
     exact hni ha
    obtain ⟨s', E', h1, h2, h3, h4, h5, h6, h7⟩ := wordsL_ok hrec hrg rs R1.1 (E ++ [(p.var, R1.2)]) hsub2 hres.ok hE2 hn2
    rw [List.map_append, List.map_append] at h1
    refine ⟨s', E', h1, h2, hres.gr.trans h3, h4, h5, fun n hnm => h6 n (by rw [List.map_append]; exact List.mem_append_left _ hnm), fun x hx q hxq hf => ?_⟩
    rcases List.mem_cons.1 hx with rfl | hx
    ·rw [hp] at hxq
     obtain rfl := Option.some.inj hxq
     exact h6 _ (by rw [List.map_append]; exact List.mem_append_right _ (.head _))
    ·exact h7 x hx q hxq hf
theorem consL_ok {V : List Ty} {rec : RecF} {rows : List RowP} {paths : List (List Int)} {at_ : Nat} {CS : List Co} (hrec : ∀ s : St, OutOk D s.out → ∀ c ∈ CS, Res D V s (narrowM at_ (isC c.name) c.many rows) (belowM paths at_ c.many) (rec s (narrowM at_ (isC c.name) c.many rows) (belowM paths at_ c.many))) : ∀ (cs : List Co) (s : St) (E : List (ByteArray × Int)), (∀ c ∈ cs, c ∈ CS) → OutOk D s.out → (∀ e ∈ E, EntC D V rows paths at_ CS s e) → ∃ (s' : St) (E' : List (ByteArray × Int)), consL rec rows paths at_ cs s (E.map Prod.fst) (E.map Prod.snd) = (s', E'.map Prod.fst, E'.map Prod.snd) ∧ OutOk D s'.out ∧ Grow s s' ∧ (∀ e ∈ E', EntC D V rows paths at_ CS s' e) ∧ E'.map Prod.fst = E.map Prod.fst ++ (cs.filter fun c => rows.any (hasC at_ c.name)).map (·.name)
 | [], s, E, _, hs, hE => ⟨s, E, rfl, hs, Grow.refl s, hE, by simp⟩
 | c :: cs, s, E, hsub, hs, hE => by
  have hsub2 : ∀ x ∈ cs, x ∈ CS := fun x hx => hsub x (.tail _ hx)
  rw [consL]
  by_cases hc : rows.any (hasC at_ c.name) = true
  ·rw [if_pos hc]
   obtain ⟨R1, hR1⟩ : ∃ R1, rec s (narrowM at_ (isC c.name) c.many rows) (belowM paths at_ c.many) = R1 := ⟨_, rfl⟩
   have hres := hrec s hs c (hsub c (.head _))
   rw [hR1] at hres ⊢
   obtain ⟨m, hm, hans⟩ := hres.an
   have hE2 : ∀ e ∈ E ++ [(c.name, R1.2)], EntC D V rows paths at_ CS R1.1 e := fun e he => by
    rcases List.mem_append.1 he with he | he
    ·exact (hE e he).grow hres.gr
    ·obtain rfl := List.mem_singleton.1 he
     exact ⟨c, hsub c (.head _), rfl, m, hm, hans⟩
   obtain ⟨s', E', h1, h2, h3, h4, h5⟩ := consL_ok hrec cs R1.1 (E ++ [(c.name, R1.2)]) hsub2 hres.ok hE2
   rw [List.map_append, List.map_append] at h1
   refine ⟨s', E', h1, h2, hres.gr.trans h3, h4, ?_⟩
   rw [h5, List.filter_cons, if_pos hc]
   simp
  ·rw [if_neg hc]
   obtain ⟨s', E', h1, h2, h3, h4, h5⟩ := consL_ok hrec cs s E hsub2 hs hE
   refine ⟨s', E', h1, h2, h3, h4, ?_⟩
   rw [h5, List.filter_cons, if_neg hc]
/-! the first row that matches, below -/
theorem fit_no {r VS : List Ty} {at_ : Nat} {p v : Ty} (hp : r[at_]? = some p) (hv : VS[at_]? = some v) (h : fit p v ≠ 1) : fitA r VS ≠ 1 := fun e => by
 have h1 := fitA_all (z := 1) (by omega) at_ p v hp hv
 have h2 := fit_range p v
 omega
theorem words_first {rows : List RowP} {VS : List Ty} {at_ : Nat} {v : Ty} {is : Ty → Bool} (hv : VS[at_]? = some v) (hvk : v.kind = 2) (hk : ∀ r ∈ rows, ∃ p, r.2[at_]? = some p ∧ r.2.length = VS.length ∧ (free p = false → p.kind = 2 ∧ (is p = true → p.var = v.var) ∧ (is p = false → p.var ≠ v.var))) : firstM (narrowM at_ is 0 rows) (cutR VS at_ v 0) = firstM rows VS := by
 have hf0 : ∀ q : Ty, (free q = false → q.kind = 2) → fieldsOf q 0 = [] := fun q hq => by
  unfold fieldsOf
  rw [if_neg (fun h => by have := hq h.1; omega)]
  rfl
 have hfv := hf0 v (fun _ => hvk)
 refine firstM_narrow fun r hr => ?_
 obtain ⟨p, hp, hl, hpk⟩ := hk r hr
 have hfp := hf0 p (fun h => (hpk h).1)
 refine ⟨p, hp, fun hkeep => fitA_cut hp hv hl (by rw [hfp, hfv]) ?_, fun hkeep => fit_no hp hv ?_⟩
 ·rw [hfp, hfv]
  have h1 : fitA [] [] = 1 := rfl
  rw [h1]
  refine ⟨fun _ => ?_, fun _ => rfl⟩
  cases hfr : free p with
  | true => exact fit_free hfr v
  | false =>
   obtain ⟨h2, h3, _⟩ := hpk hfr
   unfold keepP at hkeep
   rw [hfr, Bool.false_or] at hkeep
   rw [fit_int h2 hvk, if_pos (h3 hkeep)]
 ·unfold keepP at hkeep
  rw [Bool.or_eq_false_iff] at hkeep
  obtain ⟨h2, _, h3⟩ := hpk hkeep.1
  rw [fit_int h2 hvk, if_neg (h3 hkeep.2)]
  decide
theorem cons_first {rows : List RowP} {VS : List Ty} {at_ many : Nat} {v : Ty} {is : Ty → Bool} (hv : VS[at_]? = some v) (hvk : v.kind = 3) (hvl : v.args.length = many) (hk : ∀ r ∈ rows, ∃ p, r.2[at_]? = some p ∧ r.2.length = VS.length ∧ (free p = false → p.kind = 3 ∧ (is p = true → p.name = v.name ∧ p.args.length = many) ∧ (is p = false → p.name ≠ v.name))) : firstM (narrowM at_ is many rows) (cutR VS at_ v many) = firstM rows VS := by
 have hfv : fieldsOf v many = v.args := by
  unfold fieldsOf
  rw [if_pos ⟨free_no (.inr hvk), hvk⟩]
 refine firstM_narrow fun r hr => ?_
 obtain ⟨p, hp, hl, hpk⟩ := hk r hr
 refine ⟨p, hp, fun hkeep => ?_, fun hkeep => fit_no hp hv ?_⟩
 ·cases hfr : free p with
  | true =>
   have hfp : fieldsOf p many = anys many := by
    unfold fieldsOf
    rw [if_neg (fun h => by rw [hfr] at h; exact Bool.noConfusion h.1)]
   refine fitA_cut hp hv hl (by rw [hfp, hfv, anys_len, hvl]) ?_
   rw [hfp, fitA_anys]
   exact ⟨fun _ => fit_free hfr v, fun _ => rfl⟩
  | false =>
   obtain ⟨h2, h3, _⟩ := hpk hfr
   unfold keepP at hkeep
   rw [hfr, Bool.false_or] at hkeep
   obtain ⟨h4, h5⟩ := h3 hkeep
   have hfp : fieldsOf p many = p.args := by
    unfold fieldsOf
    rw [if_pos ⟨hfr, h2⟩]
   refine fitA_cut hp hv hl (by rw [hfp, hfv, h5, hvl]) ?_
   rw [hfp, hfv, fit_con h2 hvk h4 (by omega)]
 ·unfold keepP at hkeep
  rw [Bool.or_eq_false_iff] at hkeep
  obtain ⟨h2, _, h3⟩ := hpk hkeep.1
  rw [fit_name hkeep.1 hvk (h3 hkeep.2) (.inr h2)]
  decide
theorem cons_other {rows : List RowP} {VS : List Ty} {at_ : Nat} {v : Ty} (hv : VS[at_]? = some v) (hvk : v.kind = 3) (hk : ∀ r ∈ rows, ∃ p, r.2[at_]? = some p ∧ r.2.length = VS.length ∧ (free p = false → p.kind = 3 ∧ p.name ≠ v.name)) : firstM (narrowM at_ (fun _ => false) 0 rows) (cutR VS at_ anyT 0) = firstM rows VS := by
 have hfv : fieldsOf anyT 0 = [] := rfl
 refine firstM_narrow fun r hr => ?_
 obtain ⟨p, hp, hl, hpk⟩ := hk r hr
 refine ⟨p, hp, fun hkeep => ?_, fun hkeep => fit_no hp hv ?_⟩
 ·unfold keepP at hkeep
  rw [Bool.or_false] at hkeep
  have hfp : fieldsOf p 0 = [] := by
   unfold fieldsOf
   rw [if_neg (fun h => by rw [hkeep] at h; exact Bool.noConfusion h.1)]
   rfl
  refine fitA_cut hp hv hl (by rw [hfp, hfv]) ?_
  rw [hfp, hfv]
  exact ⟨fun _ => fit_free hkeep v, fun _ => rfl⟩
 ·unfold keepP at hkeep
  rw [Bool.or_false] at hkeep
  obtain ⟨h2, h3⟩ := hpk hkeep
  rw [fit_name hkeep hvk h3 (.inr h2)]
  decide
/-! matrices below -/
theorem narrowM_cons {at_ many : Nat} {is : Ty → Bool} {r : RowP} {rows : List RowP} {p : Ty} (hp : r.2[at_]? = some p) (hk : keepP is p = true) : narrowM at_ is many (r :: rows) = (r.1, cutR r.2 at_ p many) :: narrowM at_ is many rows := by
 unfold narrowM
 rw [List.filterMap_cons, hp]
 simp only
 rw [if_pos hk]
theorem narrowM_sub {at_ many : Nat} {is : Ty → Bool} {rows : List RowP} : ∀ x ∈ rowsOf (narrowM at_ (fun _ => false) many rows), x ∈ rowsOf (narrowM at_ is many rows) := fun x hx => by
 obtain ⟨y, hy, rfl⟩ := List.mem_map.1 hx
 obtain ⟨r, hr, p, hp, hk, rfl⟩ := narrowM_mem.1 hy
 refine List.mem_map_of_mem (narrowM_mem.2 ⟨r, hr, p, hp, ?_, rfl⟩)
 unfold keepP at hk ⊢
 rw [Bool.or_false] at hk
 rw [hk, Bool.true_or]
theorem Mat.setAny {VS : List Ty} {rows : List (List Ty)} {cols at_ : Nat} (h : Mat D (VS :: rows) cols) : Mat D (VS.set at_ anyT :: rows) cols := by
 refine ⟨fun r hr => ?_, fun r hr p hp => ?_, fun k => (h.agr k).mono fun q hq hqf => ?_⟩
 ·rcases List.mem_cons.1 hr with rfl | hr
  ·rw [List.length_set]
   exact h.len VS (.head _)
  ·exact h.len r (.tail _ hr)
 ·rcases List.mem_cons.1 hr with rfl | hr
  ·rcases List.mem_or_eq_of_mem_set hp with hp | rfl
   ·exact h.wf VS (.head _) p hp
   ·exact Wf.any D
  ·exact h.wf r (.tail _ hr) p hp
 ·obtain ⟨r, hr, hrq⟩ := col_mem.1 hq
  rcases List.mem_cons.1 hr with rfl | hr
  ·rw [List.getElem?_set] at hrq
   split at hrq
   ·split at hrq
    ·obtain rfl := Option.some.inj hrq
     cases hqf
    ·cases hrq
   ·exact col_mem.2 ⟨VS, .head _, hrq⟩
  ·exact col_mem.2 ⟨r, .tail _ hr, hrq⟩
theorem cutR_set {VS : List Ty} {at_ many : Nat} {p : Ty} : cutR (VS.set at_ anyT) at_ p many = cutR VS at_ p many := by
 unfold cutR
 rw [List.take_set_of_le (Nat.le_refl _), List.drop_set_of_lt (Nat.lt_succ_self _)]
theorem consOf_nodup {D : List Da} {d : Nat} (h : (flatN D).Nodup) : ((consOf D d).map (·.name)).Nodup := by
 induction D generalizing d with
 | nil => simp [consOf]
 | cons x D ih =>
  unfold flatN at h
  rw [List.flatMap_cons, List.nodup_append] at h
  cases d with
  | zero => exact h.1
  | succ d => exact ih h.2.1
end Go.Pt

/- Plain: the compiled tree is valid and answers with the first row that matches. No program in sight. No condition. -/
namespace Go.Pt
open Go.Eng Go.RowKit
variable {D : List Da}
theorem Grow.enter (s : St) : Grow s (enterS s) := ⟨⟨[], by simp [enterS]⟩, fun h => by
 unfold enterS at h
 simp only [Bool.or_eq_false_iff] at h
 exact h.1⟩
theorem failN_ok (D : List Da) (k : Nat) : NodeOk D k failN := ⟨0, rfl, by decide, fun n hn => (by cases hn), fun n hn => (by cases hn), fun n hn => (by cases hn), by simp [failN], by simp [failN], fun i y hy => (by simp [failN] at hy)⟩
theorem rowN_ok (D : List Da) (k : Nat) {n : Int} (h : 0 ≤ n) : NodeOk D k (rowN n) := ⟨0, rfl, h, fun n hn => (by cases hn), fun n hn => (by cases hn), fun n hn => (by cases hn), by simp [rowN], by simp [rowN], fun i y hy => (by simp [rowN] at hy)⟩
theorem build_words {V : List Ty} {rec : RecF} {f : Nat} (hrec : ∀ (s : St) (rows : List RowP) (paths : List (List Int)), OutOk D s.out → InM D rows paths → wtR (rowsOf rows) < f → Res D V s rows paths (rec s rows paths)) {s0 s : St} {rows : List RowP} {paths : List (List Int)} {at_ : Nat} {r0 : RowP} {p0 : Ty} (hg : Grow s0 s) (hs : OutOk D s.out) (hin : InM D rows paths) (hwt : wtR (rowsOf rows) < f + 1) (hr0 : r0 ∈ rows) (hp0 : r0.2[at_]? = some p0) (hf0 : free p0 = false) (hk0 : p0.kind = 2) : Res D V s0 rows paths (wordsE rec s rows paths at_) := by
 have hr0l := hin.mat.len r0.2 (List.mem_map_of_mem hr0)
 have ha : at_ < paths.length := by
  have := (List.getElem?_eq_some_iff.1 hp0).1
  omega
 have hcol : ∀ r ∈ rows, ∀ p, r.2[at_]? = some p → free p = false → p.kind = 2 := fun r hr p hp hf => by
  rw [← hk0]
  exact (hin.mat.at_pair (List.mem_map_of_mem hr) (List.mem_map_of_mem hr0) hp hp0 hf hf0).1
 have hnar : ∀ is : Ty → Bool, InM D (narrowM at_ is 0 rows) (belowM paths at_ 0) := fun is => hin.narrow (nm := ⟨#[]⟩) ha (fun r hr p hp hf _ h3 => absurd (hcol r hr p hp hf) (by omega)) (fun h => absurd h (by omega))
 have hlt : ∀ is : Ty → Bool, wtR (rowsOf (narrowM at_ is 0 rows)) < f := fun is => by
  have := narrowM_wt (is := is) (many := 0) (d := 1) hr0 hp0 (wt_field hf0)
  omega
 obtain ⟨s1, E, h1, h2, h3, h4, h5, _, h7⟩ := wordsL_ok (V := V) (rec := rec) (at_ := at_) (fun s hs n => hrec s _ _ hs (hnar _) (hlt _)) (fun r hr p hp hf => patE_int (hin.pat r hr p (List.mem_of_getElem? hp)) (hcol r hr p hp hf)) rows s [] (fun r hr => hr) hs (fun e he => by cases he) (by simp)
 rw [List.map_nil, List.map_nil] at h1
 unfold wordsE
 rw [h1]
 unfold otherM
 simp only
 obtain ⟨R2, hR2⟩ : ∃ R2, rec s1 (narrowM at_ (fun _ => false) 0 rows) (belowM paths at_ 0) = R2 := ⟨_, rfl⟩
 have hres := hrec s1 _ _ h2 (hnar (fun _ => false)) (hlt _)
 rw [hR2] at hres ⊢
 obtain ⟨mo, hmo, hans⟩ := hres.an
 have hpa : paths[at_]? = some paths[at_] := List.getElem?_eq_getElem ha
 have hpd : paths.getD at_ [] = paths[at_] := by rw [List.getD_eq_getElem?_getD, hpa]; rfl
 have hpth := hin.pth _ (List.mem_of_getElem? hpa)
 have hEl : (E.map Prod.snd).length = (E.map Prod.fst).length := by rw [List.length_map, List.length_map]
 have hE2 : ∀ e ∈ E, EntW D V rows paths at_ R2.1 e := fun e he => (h4 e he).grow hres.gr
 have hkey : ∀ (i : Nat) (y : Int), (E.map Prod.snd ++ [R2.2])[i]? = some y → ∃ m : Nat, y = (m : Int) ∧ m < R2.1.out.length := fun i y hy => by
  rcases List.mem_append.1 (List.mem_of_getElem? hy) with hy | hy
  ·obtain ⟨e, he, rfl⟩ := List.mem_map.1 hy
   obtain ⟨_, m, e1, e2⟩ := hE2 e he
   exact ⟨m, e1, e2.1⟩
  ·obtain rfl := List.mem_singleton.1 hy
   exact ⟨mo, hmo, hans.1⟩
 refine node_res hres.ok ((hg.trans h3).trans hres.gr) ?_ (.inr rfl) ?_
 ·refine ⟨0, ?_, Int.le_refl 0, ?_, ?_, fun n hn => (by cases hn), by simp, h5, fun i y hy => ?_⟩
  ·unfold bareE
   rw [if_neg (by simp), if_neg (by simp), if_neg (by simp), if_pos rfl]
   simp [hpa, hpth.1]
  ·show ∀ n ∈ paths.getD at_ [], 0 ≤ n
   rw [hpd]
   exact hpth.2
  ·intro n hn
   obtain ⟨e, he, rfl⟩ := List.mem_map.1 (show n ∈ E.map Prod.fst from hn)
   exact (h4 e he).1
  ·obtain ⟨m, rfl, hm⟩ := hkey i y hy
   refine ⟨⟨fun h => by omega, fun h => ?_⟩, by omega, by omega⟩
   have := h.2.1
   simp at this
 ·intro hf VS hV
  obtain ⟨v, hv, hkv, hfv, hkk, hwv, hat⟩ := hV.get ha
  have hvr : ∀ r ∈ rows, ∀ p, r.2[at_]? = some p → free p = false → p.kind = v.kind := fun r hr p hp hfp => (hV.mat.at_pair (.tail _ (List.mem_map_of_mem hr)) (.head _) hp hv hfp hfv).1
  have hv2 : v.kind = 2 := by rw [← hvr r0 hr0 p0 hp0 hf0]; exact hk0
  have hfl : (fieldsOf v 0).length = 0 := by
   unfold fieldsOf
   rw [if_neg (fun h => by have := h.2; omega)]
   rfl
  have hmat : Mat D (cutR VS at_ v 0 :: rowsOf (narrowM at_ (isW v.var) 0 rows)) (paths.length - 1 + 0) := by
   have h8 := narrowM_mat (rows := ((0, VS) : RowP) :: rows) (at_ := at_) (many := 0) (is := isW v.var) (nm := ⟨#[]⟩) hV.mat ha (fun r hr p hp hfp _ h3 => by
    exfalso
    rcases List.mem_cons.1 hr with rfl | hr
    ·have hp : VS[at_]? = some p := hp
     rw [hv] at hp
     obtain rfl := Option.some.inj hp
     omega
    ·have := hcol r hr p hp hfp
     omega) (fun h => absurd h (by omega))
   rw [narrowM_cons (r := ((0, VS) : RowP)) (p := v) hv (by unfold keepP isW; simp)] at h8
   exact h8
  have hb : ∀ rows2, Mat D (cutR VS at_ v 0 :: rowsOf rows2) (paths.length - 1 + 0) → Fits D V rows2 (belowM paths at_ 0) (cutR VS at_ v 0) := fun rows2 hm => hV.below ha hv hfl (fun k x hx => by
   have := (List.getElem?_eq_some_iff.1 hx).1
   omega) hm
  have hrl : ∀ r ∈ rows, ∃ p, r.2[at_]? = some p ∧ r.2.length = VS.length := fun r hr => by
   have h9 := hin.mat.len r.2 (List.mem_map_of_mem hr)
   exact ⟨_, List.getElem?_eq_getElem (by omega), by rw [h9, hV.len]⟩
  refine ⟨v, hat, fun _ => hv2, fun h => absurd rfl h, ?_⟩
  rcases idxP_cases (fun n : Int => decide (n = v.var)) (E.map Prod.fst) 0 with ⟨e1, e2⟩ | ⟨i, n, e1, e2, e3, _⟩
  ·have hpk : pickK ⟨3, 0, paths.getD at_ [], [], E.map Prod.fst, E.map Prod.snd ++ [R2.2]⟩ v = (E.map Prod.snd).length := by
    rw [pickK_neg (by rw [pickI_3 rfl, e1]; decide)]
    simp
   refine ⟨mo, ?_, hans.1, ?_⟩
   ·rw [hpk, ← hmo]
    exact List.getElem?_concat_length
   ·have h10 := hans.2 hf _ (hb _ (hmat.mono fun r hr => by
     rcases List.mem_cons.1 hr with rfl | hr
     ·exact .head _
     ·exact .tail _ (narrowM_sub r hr)))
    rw [words_first hv hv2 (fun r hr => by
     obtain ⟨p, hp, hl⟩ := hrl r hr
     refine ⟨p, hp, hl, fun hfp => ⟨hcol r hr p hp hfp, fun h => (by cases h), fun _ he => ?_⟩⟩
     have := e2 p.var (h7 r hr p hp hfp)
     rw [he] at this
     simp at this)] at h10
    exact h10
  ·have e2 : n = v.var := by simpa using e2
   have hil := (List.getElem?_eq_some_iff.1 e1).1
   rw [List.length_map] at hil
   have hei : E[i]? = some E[i] := List.getElem?_eq_getElem hil
   have hen : E[i].1 = v.var := by
    rw [List.getElem?_map, hei] at e1
    rw [← e2]
    exact Option.some.inj e1
   have hpk : pickK ⟨3, 0, paths.getD at_ [], [], E.map Prod.fst, E.map Prod.snd ++ [R2.2]⟩ v = i := pickK_nat (by rw [pickI_3 rfl, e3, Nat.zero_add])
   obtain ⟨_, m, g1, g2⟩ := hE2 _ (List.mem_of_getElem? hei)
   refine ⟨m, ?_, g2.1, ?_⟩
   ·rw [hpk, ← g1]
    show (E.map Prod.snd ++ [R2.2])[i]? = some E[i].2
    rw [List.getElem?_append_left (by rw [List.length_map]; exact hil), List.getElem?_map, hei]
    rfl
   ·rw [hen] at g2
    have h10 := g2.2 hf _ (hb _ hmat)
    rw [words_first hv hv2 (fun r hr => by
     obtain ⟨p, hp, hl⟩ := hrl r hr
     exact ⟨p, hp, hl, fun hfp => ⟨hcol r hr p hp hfp, fun h => (by unfold isW at h; exact of_decide_eq_true h), fun h => (by unfold isW at h; exact of_decide_eq_false h)⟩⟩)] at h10
    exact h10
end Go.Pt

/- Plain: what the builder makes at constructors, and all of it. No program in sight. No condition. -/
namespace Go.Pt
open Go.Eng Go.RowKit
variable {D : List Da}
theorem dOf_con {nm : ByteArray} {d : Nat} (h : dOf D nm = some d) : ∃ c, conAt D nm = some (d, c) := by
 unfold dOf at h
 obtain ⟨z, hz, hzd⟩ := Option.map_eq_some_iff.1 h
 obtain ⟨d', c⟩ := z
 have hzd : d' = d := hzd
 subst hzd
 exact ⟨c, hz⟩
theorem build_cons {V : List Ty} {rec : RecF} {f : Nat} (hU : Uniq D) (hN : (flatN D).Nodup) (hrec : ∀ (s : St) (rows : List RowP) (paths : List (List Int)), OutOk D s.out → InM D rows paths → wtR (rowsOf rows) < f → Res D V s rows paths (rec s rows paths)) {s0 s : St} {rows : List RowP} {paths : List (List Int)} {at_ : Nat} {r0 : RowP} {p0 : Ty} (hg : Grow s0 s) (hs : OutOk D s.out) (hin : InM D rows paths) (hwt : wtR (rowsOf rows) < f + 1) (hr0 : r0 ∈ rows) (hp0 : r0.2[at_]? = some p0) (hf0 : free p0 = false) (hk0 : p0.kind = 3) : Res D V s0 rows paths (consE rec (consFor D [p0]) s rows paths at_) := by
 have hr0l := hin.mat.len r0.2 (List.mem_map_of_mem hr0)
 have ha : at_ < paths.length := by
  have := (List.getElem?_eq_some_iff.1 hp0).1
  omega
 obtain ⟨d, c0, hc0, _⟩ := (hin.mat.wf r0.2 (List.mem_map_of_mem hr0) p0 (List.mem_of_getElem? hp0)).cons hk0
 have hcf : consFor D [p0] = consOf D d := by
  simp only [consFor]
  rw [hc0]
 rw [hcf]
 obtain ⟨CS, hCS⟩ : ∃ CS, consOf D d = CS := ⟨_, rfl⟩
 have hCN : (CS.map (·.name)).Nodup := by rw [← hCS]; exact consOf_nodup hN
 have hC0 := conAt_mem hc0
 rw [hCS] at hC0
 have hCU : ∀ c ∈ CS, conAt D c.name = some (d, c) := fun c hc => hU d c (by rw [hCS]; exact hc)
 rw [hCS]
 have hcol : ∀ r ∈ rows, ∀ p, r.2[at_]? = some p → free p = false → p.kind = 3 ∧ dOf D p.name = some d := fun r hr p hp hf => by
  have h1 := hin.mat.at_pair (List.mem_map_of_mem hr) (List.mem_map_of_mem hr0) hp hp0 hf hf0
  have h2 : p.kind = 3 := by rw [h1.1]; exact hk0
  exact ⟨h2, by rw [h1.2 h2]; exact dOf_of hc0⟩
 have hari : ∀ p : Ty, Wf D p → p.kind = 3 → ∀ c ∈ CS, p.name = c.name → p.args.length = c.many := fun p hw h3 c hc hn => by
  obtain ⟨d', c', h1, h2, _⟩ := hw.cons h3
  rw [hn, hCU c hc] at h1
  rw [h2]
  have hcc : c = c' := congrArg Prod.snd (Option.some.inj h1)
  rw [hcc]
 have hwfr : ∀ r ∈ rows, ∀ p, r.2[at_]? = some p → Wf D p := fun r hr p hp => hin.mat.wf r.2 (List.mem_map_of_mem hr) p (List.mem_of_getElem? hp)
 have hnar : ∀ c ∈ CS, InM D (narrowM at_ (isC c.name) c.many rows) (belowM paths at_ c.many) := fun c hc => hin.narrow (nm := c.name) ha (fun r hr p hp hf hi h3 => by
  have hn : p.name = c.name := by unfold isC at hi; exact of_decide_eq_true hi
  exact ⟨hn, hari p (hwfr r hr p hp) h3 c hc hn⟩) (fun _ r hr p hp hf => (hcol r hr p hp hf).1)
 have hnar0 : InM D (narrowM at_ (fun _ => false) 0 rows) (belowM paths at_ 0) := hin.narrow (nm := ⟨#[]⟩) ha (fun r hr p hp hf hi _ => by cases hi) (fun h => absurd h (by omega))
 have hlt : ∀ (is : Ty → Bool) (many : Nat), wtR (rowsOf (narrowM at_ is many rows)) < f := fun is many => by
  have := narrowM_wt (is := is) (many := many) (d := 1) hr0 hp0 (wt_field hf0)
  omega
 obtain ⟨s1, E, h1, h2, h3, h4, h5⟩ := consL_ok (V := V) (rec := rec) (rows := rows) (paths := paths) (at_ := at_) (CS := CS) (fun s hs c hc => hrec s _ _ hs (hnar c hc) (hlt _ _)) CS s [] (fun r hr => hr) hs (fun e he => by cases he)
 rw [List.map_nil, List.nil_append] at h5
 rw [List.map_nil, List.map_nil] at h1
 have hpa : paths[at_]? = some paths[at_] := List.getElem?_eq_getElem ha
 have hpd : paths.getD at_ [] = paths[at_] := by rw [List.getD_eq_getElem?_getD, hpa]; rfl
 have hpth := hin.pth _ (List.mem_of_getElem? hpa)
 have hEl : (E.map Prod.snd).length = (E.map Prod.fst).length := by rw [List.length_map, List.length_map]
 have hNn : (E.map Prod.fst).Nodup := by
  rw [h5]
  exact List.Nodup.sublist (List.Sublist.map _ List.filter_sublist) hCN
 have hNd : ∀ n ∈ E.map Prod.fst, dOf D n = some d := fun n hn => by
  rw [h5] at hn
  obtain ⟨c, hc, rfl⟩ := List.mem_map.1 hn
  exact dOf_of (hCU c (List.mem_filter.1 hc).1)
 have hmem0 : c0 ∈ CS.filter fun c => rows.any (hasC at_ c.name) := List.mem_filter.2 ⟨hC0.1, List.any_eq_true.2 ⟨r0, hr0, by
  unfold hasC
  rw [hp0]
  simp only
  rw [hf0, hC0.2]
  simp [isC]⟩⟩
 have hEf : (E.map Prod.fst).length = (CS.filter fun c => rows.any (hasC at_ c.name)).length := by rw [h5, List.length_map]
 have hpos : 0 < (E.map Prod.fst).length := by
  rw [hEf]
  exact List.length_pos_of_mem hmem0
 have hEC : (E.map Prod.fst).length ≤ CS.length := by
  rw [hEf]
  exact List.length_filter_le _ _
 -- what a value says
 have hval : ∀ VS, Fits D V rows paths VS → ∃ v cv, VS[at_]? = some v ∧ free v = false ∧ v.kind = 3 ∧ cv ∈ CS ∧ cv.name = v.name ∧ v.args.length = cv.many ∧ atE anyT V (paths.getD at_ []) = some v := fun VS hV => by
  obtain ⟨v, hv, hkv, hfv, hkk, hwv, hat⟩ := hV.get ha
  have h6 := hV.mat.at_pair (.tail _ (List.mem_map_of_mem hr0)) (.head _) hp0 hv hf0 hfv
  have hv3 : v.kind = 3 := by rw [← h6.1]; exact hk0
  have h7 := h6.2 hk0
  rw [dOf_of hc0] at h7
  obtain ⟨cv, hcv⟩ := dOf_con h7.symm
  have hm := conAt_mem hcv
  rw [hCS] at hm
  exact ⟨v, cv, hv, hfv, hv3, hm.1, hm.2, hari v hwv hv3 cv hm.1 hm.2.symm, hat⟩
 have hrl : ∀ VS, Fits D V rows paths VS → ∀ r ∈ rows, ∃ p, r.2[at_]? = some p ∧ r.2.length = VS.length := fun VS hV r hr => by
  have h9 := hin.mat.len r.2 (List.mem_map_of_mem hr)
  exact ⟨_, List.getElem?_eq_getElem (by omega), by rw [h9, hV.len]⟩
 -- a name that stands there
 have hfound : ∀ (s2 : St), Grow s1 s2 → s2.full = false → ∀ (last : Int) (VS : List Ty) (v : Ty) (cv : Co), Fits D V rows paths VS → VS[at_]? = some v → free v = false → v.kind = 3 → cv ∈ CS → cv.name = v.name → v.args.length = cv.many → ∀ i n, (E.map Prod.fst)[i]? = some n → n = v.name → ∃ m : Nat, (E.map Prod.snd ++ [last])[i]? = some (m : Int) ∧ m < s2.out.length ∧ Says V s2.out m (firstM rows VS) := fun s2 hg2 hf2 last VS v cv hV hv hfv hv3 hcv hcn hcm i n e1 e2 => by
  have hil := (List.getElem?_eq_some_iff.1 e1).1
  rw [List.length_map] at hil
  have hei : E[i]? = some E[i] := List.getElem?_eq_getElem hil
  have hen : E[i].1 = v.name := by
   rw [List.getElem?_map, hei] at e1
   rw [← e2]
   exact Option.some.inj e1
  obtain ⟨c, g0, g1, m, g2, g3⟩ := (h4 _ (List.mem_of_getElem? hei)).grow hg2
  have hcc : c = cv := by
   have k1 := hCU c g0
   rw [g1, hen, ← hcn, hCU cv hcv] at k1
   exact (congrArg Prod.snd (Option.some.inj k1)).symm
  subst hcc
  refine ⟨m, ?_, g3.1, ?_⟩
  ·rw [← g2, List.getElem?_append_left (by rw [List.length_map]; exact hil), List.getElem?_map, hei]
   rfl
  ·have hfl : fieldsOf v c.many = v.args := by
    unfold fieldsOf
    rw [if_pos ⟨hfv, hv3⟩]
   have hmat : Mat D (cutR VS at_ v c.many :: rowsOf (narrowM at_ (isC c.name) c.many rows)) (paths.length - 1 + c.many) := by
    have h8 := narrowM_mat (rows := ((0, VS) : RowP) :: rows) (at_ := at_) (many := c.many) (is := isC c.name) (nm := c.name) hV.mat ha (fun r hr p hp hfp hi h3 => by
     have hn : p.name = c.name := by unfold isC at hi; exact of_decide_eq_true hi
     refine ⟨hn, hari p ?_ h3 c hcv hn⟩
     rcases List.mem_cons.1 hr with rfl | hr
     ·exact hV.mat.wf VS (.head _) p (List.mem_of_getElem? hp)
     ·exact hwfr r hr p hp) (fun _ r hr p hp hfp => by
     rcases List.mem_cons.1 hr with rfl | hr
     ·have hp : VS[at_]? = some p := hp
      rw [hv] at hp
      obtain rfl := Option.some.inj hp
      exact hv3
     ·exact (hcol r hr p hp hfp).1)
    rw [narrowM_cons (r := ((0, VS) : RowP)) (p := v) hv (by unfold keepP isC; simp [hcn])] at h8
    exact h8
   have h10 := g3.2 hf2 _ (hV.below ha hv (by rw [hfl, hcm]) (fun k x hx => by rw [hfl] at hx; exact hx) hmat)
   rw [cons_first hv hv3 hcm (fun r hr => by
    obtain ⟨p, hp, hl⟩ := hrl VS hV r hr
    refine ⟨p, hp, hl, fun hfp => ⟨(hcol r hr p hp hfp).1, fun hi => ?_, fun hi => ?_⟩⟩
    ·have hn : p.name = c.name := by unfold isC at hi; exact of_decide_eq_true hi
     exact ⟨by rw [hn, hcn], hari p (hwfr r hr p hp) (hcol r hr p hp hfp).1 c hcv hn⟩
    ·have hn : ¬ p.name = c.name := by unfold isC at hi; exact of_decide_eq_false hi
     rw [← hcn]
     exact hn)] at h10
   exact h10
 -- a name that does not
 have hmiss : ∀ (v : Ty) (cv : Co), cv ∈ CS → cv.name = v.name → (∀ n ∈ E.map Prod.fst, decide (n = v.name) = false) → ¬ rows.any (hasC at_ cv.name) = true := fun v cv hcv hcn he hany => by
  have h6 : cv.name ∈ E.map Prod.fst := by
   rw [h5]
   exact List.mem_map_of_mem (List.mem_filter.2 ⟨hcv, hany⟩)
  have := he _ h6
  rw [hcn] at this
  simp at this
 unfold consE
 rw [h1]
 simp only
 by_cases hless : (E.map Prod.fst).length < CS.length
 ·rw [if_pos hless]
  unfold otherM
  obtain ⟨R2, hR2⟩ : ∃ R2, rec s1 (narrowM at_ (fun _ => false) 0 rows) (belowM paths at_ 0) = R2 := ⟨_, rfl⟩
  have hres := hrec s1 _ _ h2 hnar0 (hlt _ _)
  rw [hR2] at hres ⊢
  obtain ⟨mo, hmo, hans⟩ := hres.an
  have hkey : ∀ (i : Nat) (y : Int), (E.map Prod.snd ++ [R2.2])[i]? = some y → ∃ m : Nat, y = (m : Int) ∧ m < R2.1.out.length := fun i y hy => by
   rcases List.mem_append.1 (List.mem_of_getElem? hy) with hy | hy
   ·obtain ⟨e, he, rfl⟩ := List.mem_map.1 hy
    obtain ⟨_, _, _, m, e1, e2⟩ := (h4 e he).grow hres.gr
    exact ⟨m, e1, e2.1⟩
   ·obtain rfl := List.mem_singleton.1 hy
    exact ⟨mo, hmo, hans.1⟩
  refine node_res hres.ok ((hg.trans h3).trans hres.gr) ?_ (.inl rfl) ?_
  ·refine ⟨d, ?_, Int.le_refl 0, ?_, fun n hn => (by cases hn), hNd, hNn, by simp, fun i y hy => ?_⟩
   ·unfold bareE
    rw [if_neg (by simp), if_neg (by simp), if_pos rfl]
    simp [hpa, hpth.1]
   ·show ∀ n ∈ paths.getD at_ [], 0 ≤ n
    rw [hpd]
    exact hpth.2
   ·obtain ⟨m, rfl, hm⟩ := hkey i y hy
    refine ⟨⟨fun h => by omega, fun h => ?_⟩, by omega, by omega⟩
    have h6 := h.2.2.2
    rw [hCS] at h6
    have h6 : (E.map Prod.fst).length = CS.length := h6
    omega
  ·intro hf VS hV
   obtain ⟨v, cv, hv, hfv, hv3, hcv, hcn, hcm, hat⟩ := hval VS hV
   refine ⟨v, hat, fun h => absurd h (by simp), fun _ => hv3, ?_⟩
   rcases idxP_cases (fun n : ByteArray => decide (n = v.name)) (E.map Prod.fst) 0 with ⟨e1, e2⟩ | ⟨i, n, e1, e2, e3, _⟩
   ·have hpk : pickK ⟨2, 0, paths.getD at_ [], E.map Prod.fst, [], E.map Prod.snd ++ [R2.2]⟩ v = (E.map Prod.snd).length := by
     rw [pickK_neg (by rw [pickI_2 rfl, e1]; decide)]
     simp
    refine ⟨mo, ?_, hans.1, ?_⟩
    ·rw [hpk, ← hmo]
     exact List.getElem?_concat_length
    ·have hno := hmiss v cv hcv hcn e2
     have hmat : Mat D (cutR VS at_ anyT 0 :: rowsOf (narrowM at_ (fun _ => false) 0 rows)) (paths.length - 1 + 0) := by
      have h8 := narrowM_mat (rows := ((0, VS.set at_ anyT) : RowP) :: rows) (at_ := at_) (many := 0) (is := fun _ => false) (nm := ⟨#[]⟩) hV.mat.setAny ha (fun r hr p hp hfp hi => by cases hi) (fun h => absurd h (by omega))
      have hsl : (VS.set at_ anyT)[at_]? = some anyT := by
       rw [List.getElem?_set, if_pos rfl, if_pos (by have := hV.len; omega)]
      rw [narrowM_cons (r := ((0, VS.set at_ anyT) : RowP)) (p := anyT) hsl rfl] at h8
      simp only [rowsOf, List.map_cons, cutR_set] at h8
      exact h8
     have h10 := hans.2 hf _ (hV.below (u := anyT) ha hv rfl (fun k x hx => by cases hx) hmat)
     rw [cons_other hv hv3 (fun r hr => by
      obtain ⟨p, hp, hl⟩ := hrl VS hV r hr
      refine ⟨p, hp, hl, fun hfp => ⟨(hcol r hr p hp hfp).1, fun hn => hno (List.any_eq_true.2 ⟨r, hr, ?_⟩)⟩⟩
      unfold hasC
      rw [hp]
      simp only
      rw [hfp, hcn]
      simp [isC, hn])] at h10
     exact h10
   ·have e2 : n = v.name := by simpa using e2
    have hpk : pickK ⟨2, 0, paths.getD at_ [], E.map Prod.fst, [], E.map Prod.snd ++ [R2.2]⟩ v = i := pickK_nat (by rw [pickI_2 rfl, e3, Nat.zero_add])
    rw [hpk]
    exact hfound R2.1 hres.gr hf R2.2 VS v cv hV hv hfv hv3 hcv hcn hcm i n e1 e2
 ·rw [if_neg hless]
  have hfull : (E.map Prod.fst).length = CS.length := by omega
  refine node_res h2 (hg.trans h3) ?_ (.inl rfl) ?_
  ·refine ⟨d, ?_, Int.le_refl 0, ?_, fun n hn => (by cases hn), hNd, hNn, by simp, fun i y hy => ?_⟩
   ·unfold bareE
    rw [if_neg (by simp), if_neg (by simp), if_pos rfl]
    simp [hpa, hpth.1]
   ·show ∀ n ∈ paths.getD at_ [], 0 ≤ n
    rw [hpd]
    exact hpth.2
   ·have hy : (E.map Prod.snd ++ [-1])[i]? = some y := hy
    by_cases hi : i < (E.map Prod.snd).length
    ·rw [List.getElem?_append_left hi] at hy
     obtain ⟨e, he, rfl⟩ := List.mem_map.1 (List.mem_of_getElem? hy)
     obtain ⟨_, _, _, m, e1, e2⟩ := h4 e he
     have := e2.1
     refine ⟨⟨fun h => by omega, fun h => ?_⟩, by omega, by omega⟩
     have h6 : i = (E.map Prod.fst).length := h.1
     omega
    ·have h6 := (List.getElem?_eq_some_iff.1 hy).1
     rw [List.length_append, List.length_singleton] at h6
     obtain rfl : i = (E.map Prod.snd).length := by omega
     rw [List.getElem?_concat_length] at hy
     obtain rfl := Option.some.inj hy
     refine ⟨⟨fun _ => ⟨hEl, rfl, hpos, ?_⟩, fun _ => rfl⟩, by omega, by omega⟩
     rw [hCS]
     exact hfull
  ·intro hf VS hV
   obtain ⟨v, cv, hv, hfv, hv3, hcv, hcn, hcm, hat⟩ := hval VS hV
   refine ⟨v, hat, fun h => absurd h (by simp), fun _ => hv3, ?_⟩
   rcases idxP_cases (fun n : ByteArray => decide (n = v.name)) (E.map Prod.fst) 0 with ⟨e1, e2⟩ | ⟨i, n, e1, e2, e3, _⟩
   ·exfalso
    have hno := hmiss v cv hcv hcn e2
    have h6 := List.length_filter_eq_length_iff.1 (by rw [← hEf]; exact hfull)
    exact hno (h6 cv hcv)
   ·have e2 : n = v.name := by simpa using e2
    have hpk : pickK ⟨2, 0, paths.getD at_ [], E.map Prod.fst, [], E.map Prod.snd ++ [-1]⟩ v = i := pickK_nat (by rw [pickI_2 rfl, e3, Nat.zero_add])
    rw [hpk]
    exact hfound s1 (Grow.refl s1) hf (-1) VS v cv hV hv hfv hv3 hcv hcn hcm i n e1 e2
theorem build_res {V : List Ty} (hU : Uniq D) (hN : (flatN D).Nodup) : ∀ (f : Nat) (s : St) (rows : List RowP) (paths : List (List Int)), OutOk D s.out → InM D rows paths → wtR (rowsOf rows) < f → Res D V s rows paths (buildE D f s rows paths)
 | 0, s, rows, paths, _, _, h => absurd h (by omega)
 | f + 1, s, [], paths, hs, hin, hw => by
  rw [buildE]
  exact leaf_res (s := enterS s) hs (Grow.enter s) (failN_ok D _) (.inl rfl) (fun _ VS _ => rfl)
 | f + 1, s, r0 :: rs, paths, hs, hin, hw => by
  have ih := build_res (V := V) hU hN f
  have hr0l := hin.mat.len r0.2 (.head _)
  rw [buildE]
  by_cases hfull : (enterS s).full = true
  ·rw [if_pos hfull]
   exact leaf_res (s := enterS s) hs (Grow.enter s) (failN_ok D _) (.inl rfl) (fun h => by rw [hfull] at h; cases h)
  rw [if_neg hfull]
  by_cases hn : nfi r0.2 < 0
  ·rw [if_pos hn]
   refine leaf_res (s := enterS s) hs (Grow.enter s) (rowN_ok D _ (hin.row r0 (.head _))) (.inr rfl) (fun _ VS hV => ?_)
   have h1 : fitA r0.2 VS = 1 := fitA_one fun n p x hp hx => fit_free (nfi_none hn p (List.mem_of_getElem? hp)) x
   rw [firstM, if_pos h1]
   rfl
  rw [if_neg hn]
  obtain ⟨k, p, e1, e2, e3, _⟩ := nfi_some hn
  have ek : (nfi r0.2).toNat = k := by rw [e1]; exact Int.toNat_natCast k
  have ep : r0.2.getD k anyT = p := by rw [List.getD_eq_getElem?_getD, e2]; rfl
  rw [ek, ep]
  have hwf := hin.mat.wf r0.2 (.head _) p (List.mem_of_getElem? e2)
  unfold nodeE
  by_cases hk : p.kind = 2
  ·rw [if_pos hk]
   exact build_words ih (Grow.enter s) hs hin hw (.head _) e2 e3 hk
  ·rw [if_neg hk]
   have hk3 : p.kind = 3 := by
    rcases hwf.kinds e3 with h | h
    ·exact absurd h hk
    ·exact h
   exact build_cons hU hN ih (Grow.enter s) hs hin hw (.head _) e2 e3 hk3
/-! the whole -/
theorem check_pat {D : List Da} {R : List (List Ty)} (h : checkE D R = 0) : ∀ r ∈ R, ∀ p ∈ r, patE D p = 0 := by
 unfold checkE at h
 by_cases h1 : smallE D R = false
 ·rw [if_pos h1] at h
  cases h
 rw [if_neg h1] at h
 by_cases h2 : ¬ (flatN D).Nodup
 ·rw [if_pos h2] at h
  cases h
 rw [if_neg h2] at h
 cases R with
 | nil => exact fun r hr => by cases hr
 | cons r0 rs =>
  simp only at h
  by_cases h3 : ((r0 :: rs).all fun r => decide (r.length = r0.length)) = false
  ·rw [if_pos h3] at h
   cases h
  rw [if_neg h3] at h
  by_cases h4 : patR D (r0 :: rs) ≠ 0
  ·rw [if_pos h4] at h
   exact absurd h h4
  ·exact patR_all (Decidable.not_not.1 h4)
theorem rowsFrom_nn : ∀ (k : Nat) (R : List (List Ty)), ∀ r ∈ rowsFrom k R, 0 ≤ r.1
 | _, [], r, hr => by cases hr
 | k, x :: R, r, hr => by
  rcases List.mem_cons.1 hr with rfl | hr
  ·show (0 : Int) ≤ (k : Int)
   omega
  ·exact rowsFrom_nn (k + 1) R r hr
theorem paths0_get {r : List Ty} {R : List (List Ty)} {k : Nat} {p : List Int} (h : (paths0 (r :: R))[k]? = some p) : p = [(k : Int)] := by
 unfold paths0 at h
 rw [List.getElem?_map] at h
 have hl : k < r.length := by
  by_cases hl : k < r.length
  ·exact hl
  ·rw [List.getElem?_eq_none (by rw [List.length_range]; omega)] at h
   cases h
 rw [List.getElem?_range hl] at h
 exact (Option.some.inj h).symm
theorem comp_in {D : List Da} {R : List (List Ty)} (h : checkE D R = 0) : InM D (rowsFrom 0 R) (paths0 R) := by
 obtain ⟨_, _, _, cols, hc, _, hM⟩ := checkE_ok h
 have hl : (paths0 R).length = (match R with | [] => 0 | r :: _ => r.length) := by
  cases R with
  | nil => rfl
  | cons r R => unfold paths0; simp
 refine ⟨?_, rowsFrom_nn 0 R, fun r hr p hp => ?_, fun p hp => ?_⟩
 ·rw [rowsFrom_rows]
  cases R with
  | nil => exact ⟨fun r hr => (by cases hr), fun r hr => (by cases hr), fun k => Agr.nil⟩
  | cons r R =>
   rw [hl]
   simp only
   rw [← hc r R rfl]
   exact hM
 ·have h1 : r.2 ∈ rowsOf (rowsFrom 0 R) := List.mem_map_of_mem hr
  rw [rowsFrom_rows] at h1
  exact check_pat h r.2 h1 p hp
 ·cases R with
  | nil => cases hp
  | cons r R =>
   obtain ⟨k, hk⟩ := List.mem_iff_getElem?.1 hp
   obtain rfl := paths0_get hk
   refine ⟨by simp, fun n hn => ?_⟩
   obtain rfl := List.mem_singleton.1 hn
   omega
theorem comp_res {D : List Da} {R : List (List Ty)} (V : List Ty) (h : checkE D R = 0) : Res D V st0 (rowsFrom 0 R) (paths0 R) (compB D R) := by
 obtain ⟨hU, _, _, _⟩ := checkE_ok h
 refine build_res hU (check_nodup h) _ _ _ _ (fun k x hx => ?_) (comp_in h) ?_
 ·have hx : ([] : List Pt.Nd)[k]? = some x := hx
  cases hx
 ·rw [rowsFrom_rows]
  omega
theorem comp_valid {D : List Da} {R : List (List Ty)} (h : checkE D R = 0) (hl : (compT D R).length ≤ 4096) : ValidT D (compT D R) := by
 have hr := comp_res [] h
 obtain ⟨m, hm, hm2⟩ := hr.an
 refine ⟨?_, hl, fun k x hx => ?_⟩
 ·unfold compT
  rw [List.length_take, hm, Int.toNat_natCast]
  have := hm2.1
  omega
 ·unfold compT at hx
  rw [List.getElem?_take] at hx
  split at hx
  ·exact hr.ok k x hx
  ·cases hx
theorem comp_run {D : List Da} {R : List (List Ty)} {V : List Ty} (h : checkE D R = 0) (h2 : checkE D (R ++ [V]) = 0) (hk : knownL V = true) (hf : (compB D R).1.full = false) (hw : which R V 0 ≠ -2) : runE (compT D R) V (compT D R).length ((compT D R).length - 1) = (which R V 0, 0) := by
 have hr := comp_res V h
 obtain ⟨m, hm, hm2⟩ := hr.an
 have hml := hm2.1
 have hlen : (compT D R).length = m + 1 := by
  unfold compT
  rw [List.length_take, hm, Int.toNat_natCast]
  omega
 have hget : ∀ j, j ≤ m → (compT D R)[j]? = (compB D R).1.out[j]? := fun j hj => by
  unfold compT
  rw [hm, Int.toNat_natCast, List.getElem?_take, if_pos (by omega)]
 rw [hlen, Nat.add_sub_cancel, ← firstM_which V 0 R hw]
 cases R with
 | nil =>
  have hfit : Fits D V (rowsFrom 0 []) (paths0 []) [] := ⟨⟨fun r hr => (by obtain rfl := List.mem_singleton.1 hr; rfl), fun r hr p hp => (by obtain rfl := List.mem_singleton.1 hr; cases hp), fun k => (by simp only [rowsFrom, rowsOf, List.map_nil]; exact Agr.nil)⟩, fun v hv => (by cases hv), fun p hp => (by cases hp), fun k p v hp hv => (by cases hv)⟩
  exact hm2.2 hf [] hfit _ hget _ (Nat.lt_succ_self m)
 | cons r R =>
  obtain ⟨_, _, _, cols, hc, _, hM⟩ := checkE_ok h2
  have hcr : cols = r.length := hc r (R ++ [V]) rfl
  have hpl : (paths0 (r :: R)).length = cols := by rw [hcr]; unfold paths0; simp
  have hfit : Fits D V (rowsFrom 0 (r :: R)) (paths0 (r :: R)) V := by
   refine ⟨?_, knownL_mem hk, fun p hp => ?_, fun k p v hp hv => ?_⟩
   ·rw [hpl, rowsFrom_rows]
    refine hM.mono fun x hx => ?_
    rcases List.mem_cons.1 hx with rfl | hx
    ·exact List.mem_append_right _ (.head _)
    ·exact List.mem_append_left _ hx
   ·obtain ⟨k, hk⟩ := List.mem_iff_getElem?.1 hp
    rw [paths0_get hk]
    simp
   ·rw [paths0_get hp, atE, Int.toNat_natCast, hv]
    rfl
  exact hm2.2 hf V hfit _ hget _ (Nat.lt_succ_self m)
end Go.Pt

/- The walks of the reference's ConOf, fits, FitsAll and Which. Conditions: none. -/
namespace Go.Pt
open Go.Eng Go.RowKit
theorem fitA_step {ps vs : List (Ty × PY)} {i : Nat} {p v : Ty × PY} (h1 : ps[i]? = some p) (h2 : vs[i]? = some v) : fitA ((ps.drop i).map Prod.fst) ((vs.drop i).map Prod.fst) = min (fit p.1 v.1) (fitA ((ps.drop (i + 1)).map Prod.fst) ((vs.drop (i + 1)).map Prod.fst)) := by
 obtain ⟨g1, rfl⟩ := List.getElem?_eq_some_iff.1 h1
 obtain ⟨g2, rfl⟩ := List.getElem?_eq_some_iff.1 h2
 rw [List.drop_eq_getElem_cons g1, List.drop_eq_getElem_cons g2, List.map_cons, List.map_cons, fitA]
end Go.Pt
namespace Go.Proofs.Ytleggdmhihcafaa.pt
open Go.RowKit Go.Eng Go.Pt
set_option maxRecDepth 100000
theorem FitsAll_of (q q2 : Option Addr) (cap cap2 : Nat) (ps vs : List (Ty × PY)) (w : World) (hlen : ps.length ≤ 9223372036854775807) (hvl : vs.length ≤ 9223372036854775807) (h : Arr tyR w (low w) ps q) (h2 : Arr tyR w (low w) vs q2) (hle : ps.length ≤ vs.length)
  (hf : ∀ p ∈ ps, ∀ v ∈ vs, ∀ w', Ext w w' → Calls Try.prog 23 [.agg (tyc p.1 p.2).toArray, .agg (tyc v.1 v.2).toArray].toArray w' fun e w'' => e = .returned (.int .i64 (fit p.1 v.1)) ∧ Ext w' w'') :
  Calls Try.prog 10 [.slice q ps.length cap, .slice q2 vs.length cap2].toArray w fun e w' => e = .returned (.int .i64 (fitA (ps.map Prod.fst) (vs.map Prod.fst))) ∧ Ext w w' := by
 refine enter Try.func10 rfl Try.ntmps10 rfl (Cls.start w) ?_
 (simp only [argEnv, Nat.zero_add, Nat.reduceAdd])
 apply W.sr
 apply oas; rfl; rfl
 apply OL.nsr
 apply oas; rfl; rfl
 apply OL.nx
 apply W.seq
 apply W.sr
 apply omv; rfl; rfl
 apply oop; rfl; apply Pev.len_slice; rfl; exact yes; rfl
 apply omv; rfl; rfl
 apply OL.nx
 apply W.block
 refine W.loop (G := Nat × Int) (fun g => g.1 ≤ ps.length ∧ g.2 ≤ 1 ∧ min g.2 (fitA ((ps.drop g.1).map Prod.fst) ((vs.drop g.1).map Prod.fst)) = fitA (ps.map Prod.fst) (vs.map Prod.fst)) (fun g => ps.length - g.1)
  (fun g => [(1, true, .slice q2 vs.length cap2), (5, true, .int .i64 g.2), (8, true, .slice q ps.length cap), (9, true, .int .i64 (ps.length : Int)), (10, true, .int .i64 (g.1 : Int))])
  (fun g => Cls [] [w]) (0, 1) ⟨Nat.zero_le _, Int.le_refl _, by have := fitA_range (ps.map Prod.fst) (vs.map Prod.fst); simp only [List.drop_zero]; omega⟩ (by exact Sub.au) (fun w' hw' => hw') ?_
 rintro ⟨i, worst⟩ ⟨hi, hw1, hrest⟩
 simp only at hi hw1 hrest ⊢
 apply W.sr
 apply obn; rfl; rfl; rfl; apply Bin.lss
 apply OL.nx
 apply W.seq
 (refine W.cnd (fun hlt => ?_) (fun hlt => ?_)) <;> (try (exfalso; first | omega | exact hlt trivial | contradiction))
 ·obtain ⟨a, u, rfl, hab, hu, hcell, hok⟩ := h.get (show i < ps.length by omega)
  obtain ⟨a2, v, rfl, hab2, hv, hcell2, hok2⟩ := h2.get (show i < vs.length by omega)
  have hab : a.block < w.heap.size := hab
  have hab2 : a2.block < w.heap.size := hab2
  have hcell : CellsAt w (a.add (i * 4)) [.int .i64 u.1.kind, .string u.1.name, .int .i64 u.1.var, .slice u.2.1 u.1.args.length u.2.2] := hcell
  have hcell2 : CellsAt w (a2.add (i * 4)) [.int .i64 v.1.kind, .string v.1.name, .int .i64 v.1.var, .slice v.2.1 v.1.args.length v.2.2] := hcell2
  have hfv := hf u (List.mem_of_getElem? hu) v (List.mem_of_getElem? hv)
  simp only [tyc] at hfv
  rw [fitA_step hu hv] at hrest
  apply W.sk
  apply W.sb
  apply W.sr
  apply omv; rfl; rfl
  apply oop; rfl; apply Pev.idx; rfl; exact yes; rfl; exact yes; rfl; rfl; intro hcond; omega
  apply oop; rfl; apply Pev.load_keptA; rfl; exact yes; exact .head _; rfl; intro hcond; assumption; rfl; intro hcond; (rw [add_block]; assumption); intro hcond; exact NotOwned.au
  apply OL.alloc; rfl; rfl; exact CellsL.agg; (intro bk hbk; simp only [AllLe, and_true] at hbk)
  apply oas; rfl; rfl
  apply OL.storeB; rfl; rfl; exact CellsL.agg; rfl; rfl; rfl; exact Swap.au; exact Put.au
  apply OL.nx
  apply W.regd0; decide +kernel; kernel_rfl; decide +kernel; exact fun w hw => hw.drew
  apply qmv; rfl; rfl
  apply qop; rfl; apply Pev.load_blkA; rfl; exact yes; exact .head _; rfl; exact Take.au
  apply qmv; rfl; rfl
  apply qmv; rfl; rfl
  apply qop; rfl; apply Pev.idx; rfl; exact yes; rfl; exact yes; rfl; rfl; intro hcond; omega
  apply qop; rfl; apply Pev.load_keptA; rfl; exact yes; exact .head _; rfl; intro hcond; assumption; rfl; intro hcond; (rw [add_block]; assumption); intro hcond; exact NotOwned.au
  (((first | (with_reducible apply OL.op) | (with_reducible apply QL.op)); (exact Guard.au); rfl; rfl); (exact Pev.call (v := .int .i64 (fit u.1 v.1)) rfl (by exact Args.au) (fun _ w2 hw2 => (hfv w2 (hw2.toExt (.head _) (fun k hk => NotOwned.blk (by omega) .nil))).mono (fun e w3 h => ⟨h.1, hw2.ext h.2⟩))))
  apply qop; rfl; apply Pev.min2; rfl; exact yes; rfl; exact yes
  apply qas; rfl; rfl
  apply QL.nil
  with_reducible apply At.in_normal
  with_reducible apply At.next
  apply W.reg
  apply obn; rfl; rfl; rfl; apply Bin.add_in; omega
  apply omv; rfl; rfl
  apply OL.nil
  have hmin : (if fit u.1 v.1 < worst then fit u.1 v.1 else worst) = min worst (fit u.1 v.1) := by split <;> omega
  rw [hmin]
  exact At.again (i + 1, min worst (fit u.1 v.1)) ⟨by simp only; omega, by simp only; omega, by simp only; rw [← hrest]; omega⟩ (by simp only; omega) (by exact Sub.au) (fun w' hw' => hw'.thin (by exact Thin.au))
 ·rw [List.drop_eq_nil_of_le (by omega), List.map_nil, fitA] at hrest
  refine W.xt ?_
  with_reducible apply At.next
  apply W.sr
  apply omv; rfl; rfl
  apply oas; rfl; rfl
  apply OL.nx
  apply W.ret
  ((with_reducible apply At.fin1); rfl; rfl; intro w' hw')
  exact ⟨by rw [← hrest, show min worst 1 = worst by omega], by (exact hw'.fr)⟩
theorem fits_calls : ∀ (n : Nat) (p v : Ty) (y z : PY) (w : World), p.sz < n → TyO w (low w) p y → TyO w (low w) v z →
  Calls Try.prog 23 [.agg (tyc p y).toArray, .agg (tyc v z).toArray].toArray w fun e w' => e = .returned (.int .i64 (fit p v)) ∧ Ext w w' := by
 intro n
 induction n with
 | zero => intro p v y z w hn; omega
 | succ n ih =>
  intro p v y z w hn hp hv
  obtain ⟨pz, hpz, hpza, hpzl, _⟩ := pat_kids hp
  obtain ⟨vz, hvz, hvza, hvzl, _⟩ := pat_kids hv
  have hpzl2 : pz.length = p.args.length := by rw [← hpz, List.length_map]
  have hvzl2 : vz.length = v.args.length := by rw [← hvz, List.length_map]
  have hfe := fit_eq p v
  refine enter Try.func23 rfl Try.ntmps23 rfl (Cls.start w) ?_
  (simp only [argEnv, Nat.zero_add, Nat.reduceAdd])
  simp only [tyc]
  apply W.sr
  apply OL.box; rfl; rfl; exact CellsL.agg; (intro bk hbk; simp only [AllLe, and_true] at hbk)
  apply OL.box; rfl; rfl; exact CellsL.agg; (intro bk hbk; simp only [AllLe, and_true] at hbk)
  apply oas; rfl; rfl
  apply OL.nx
  apply W.seq
  apply W.sr
  apply ofa; rfl; rfl; rfl
  apply old; rfl; rfl; exact .tail _ (.head _); rfl; rfl
  apply obn; rfl; rfl; rfl; apply Bin.eql
  apply omv; rfl; rfl
  apply ono; rfl; rfl; rfl; apply Pev.fld; rfl; exact yes; rfl
  apply ono; rfl; rfl; rfl; apply Pev.load_blk; rfl; exact fun h => h; exact .tail _ (.head _); rfl; rfl
  apply ono; rfl; rfl; rfl; apply Pev.bin; rfl; exact fun h => h; rfl; exact yes; intro hcond; apply Bin.eql
  apply oop; rfl; apply Pev.pick_or; rfl; exact yes; rfl; exact fun h => h
  apply OL.nx
  revert bk
  intro b3 hb3
  rename_i b2 hb2
  refine W.cond rfl (fun hb => ?_) (fun hb => ?_)
  ·have hb : free p = true := hb
   rw [if_pos hb] at hfe
   rw [hfe]
   apply W.sr
   apply oas; rfl; rfl
   apply OL.nx
   refine W.rt ?_
   ((with_reducible apply At.fin1); rfl; rfl; intro w' hw')
   exact ⟨rfl, by (exact hw'.fr)⟩
  have hb : free p = false := hb
  rw [hb, if_neg (by decide)] at hfe
  apply W.sk
  apply W.seq
  apply W.sr
  apply ofa; rfl; rfl; rfl
  apply old; rfl; rfl; exact .head _; rfl; rfl
  apply obn; rfl; rfl; rfl; apply Bin.eql
  apply omv; rfl; rfl
  apply ono; rfl; rfl; rfl; apply Pev.fld; rfl; exact yes; rfl
  apply ono; rfl; rfl; rfl; apply Pev.load_blk; rfl; exact fun h => h; exact .head _; rfl; rfl
  apply ono; rfl; rfl; rfl; apply Pev.bin; rfl; exact fun h => h; rfl; exact yes; intro hcond; apply Bin.eql
  apply oop; rfl; apply Pev.pick_or; rfl; exact yes; rfl; exact fun h => h
  apply OL.nx
  refine W.cond rfl (fun hb => ?_) (fun hb => ?_)
  ·have hb : free v = true := hb
   rw [if_pos hb] at hfe
   rw [hfe]
   apply W.sr
   apply oas; rfl; rfl
   apply OL.nx
   refine W.rt ?_
   ((with_reducible apply At.fin1); rfl; rfl; intro w' hw')
   exact ⟨rfl, by (exact hw'.fr)⟩
  have hb2 : free v = false := hb
  rw [hb2, if_neg (by decide)] at hfe
  apply W.sk
  apply W.seq
  apply W.sr
  apply ofa; rfl; rfl; rfl
  apply old; rfl; rfl; exact .tail _ (.head _); rfl; rfl
  apply ofa; rfl; rfl; rfl
  apply old; rfl; rfl; exact .head _; rfl; rfl
  apply obn; rfl; rfl; rfl; apply Bin.neq
  apply omv; rfl; rfl
  apply ono; rfl; rfl; rfl; apply Pev.fld; rfl; exact yes; rfl
  apply ono; rfl; rfl; rfl; apply Pev.load_blk; rfl; exact fun h => h; exact .tail _ (.head _); rfl; rfl
  apply ono; rfl; rfl; rfl; apply Pev.bin; rfl; exact fun h => h; rfl; exact yes; intro hcond; apply Bin.eql
  apply ono; rfl; rfl; rfl; apply Pev.move; rfl; exact fun h => h
  apply OL.op; exact Guard.cyes rfl rfl; rfl; rfl; apply Pev.fld; rfl; exact yes; rfl
  apply OL.op; exact Guard.cyes rfl rfl; rfl; rfl; apply Pev.load_blk; rfl; exact fun h => h; exact .tail _ (.head _); rfl; rfl
  apply OL.op; exact Guard.cyes rfl rfl; rfl; rfl; apply Pev.fld; rfl; exact yes; rfl
  apply OL.op; exact Guard.cyes rfl rfl; rfl; rfl; apply Pev.load_blk; rfl; exact fun h => h; exact .head _; rfl; rfl
  apply OL.op; exact Guard.cyes rfl rfl; rfl; rfl; apply Pev.bin; rfl; exact fun h => h; rfl; exact fun h => h; intro hcond; apply Bin.neq
  apply ono; rfl; rfl; rfl; apply Pev.pick_and; rfl; exact fun h => h; rfl; exact fun h => h
  apply oop; rfl; apply Pev.pick_or; rfl; exact yes; rfl; exact fun h => h
  apply omv; rfl; rfl
  apply ono; rfl; rfl; rfl; apply Pev.fld; rfl; exact yes; rfl
  apply ono; rfl; rfl; rfl; apply Pev.load_blk; rfl; exact fun h => h; exact .tail _ (.head _); rfl; rfl
  apply ono; rfl; rfl; rfl; apply Pev.bin; rfl; exact fun h => h; rfl; exact yes; intro hcond; apply Bin.eql
  apply ono; rfl; rfl; rfl; apply Pev.move; rfl; exact fun h => h
  apply OL.op; exact Guard.cyes rfl rfl; rfl; rfl; apply Pev.fld; rfl; exact yes; rfl
  apply OL.op; exact Guard.cyes rfl rfl; rfl; rfl; apply Pev.load_blk; rfl; exact fun h => h; exact .tail _ (.head _); rfl; rfl
  apply OL.op; exact Guard.cyes rfl rfl; rfl; rfl; apply Pev.fld; rfl; exact yes; rfl
  apply OL.op; exact Guard.cyes rfl rfl; rfl; rfl; apply Pev.load_blk; rfl; exact fun h => h; exact .head _; rfl; rfl
  apply OL.op; exact Guard.cyes rfl rfl; rfl; rfl; apply Pev.bin; rfl; exact fun h => h; rfl; exact fun h => h; intro hcond; apply Bin.str_neq
  apply OL.op; exact Guard.cyes rfl rfl; rfl; rfl; apply Pev.move; rfl; exact fun h => h
  apply OL.op; exact Guard.cno rfl rfl; rfl; rfl; apply Pev.fld; rfl; exact yes; rfl
  apply OL.op; exact Guard.cno rfl rfl; rfl; rfl; apply Pev.load_blk; rfl; exact fun h => h; exact .tail _ (.head _); rfl; rfl
  apply OL.op; exact Guard.cno rfl rfl; rfl; rfl; apply Pev.len_slice; rfl; exact fun h => h; rfl
  apply OL.op; exact Guard.cno rfl rfl; rfl; rfl; apply Pev.fld; rfl; exact yes; rfl
  apply OL.op; exact Guard.cno rfl rfl; rfl; rfl; apply Pev.load_blk; rfl; exact fun h => h; exact .head _; rfl; rfl
  apply OL.op; exact Guard.cno rfl rfl; rfl; rfl; apply Pev.len_slice; rfl; exact fun h => h; rfl
  apply OL.op; exact Guard.cno rfl rfl; rfl; rfl; apply Pev.bin; rfl; exact fun h => h; rfl; exact fun h => h; intro hcond; apply Bin.neq
  apply OL.op; exact Guard.cyes rfl rfl; rfl; rfl; apply Pev.pick_or; rfl; exact fun h => h; rfl; exact fun h => h
  apply ono; rfl; rfl; rfl; apply Pev.pick_and; rfl; exact fun h => h; rfl; exact fun h => h
  apply oop; rfl; apply Pev.pick_or; rfl; exact yes; rfl; exact fun h => h
  apply OL.nx
  have hcast : decide ((p.args.length : Int) = (v.args.length : Int)) = decide (p.args.length = v.args.length) := decide_eq_decide.2 (by omega)
  refine W.cond rfl (fun hb => ?_) (fun hb => ?_)
  ·rw [hcast] at hb
   have hb : p.kind ≠ v.kind ∨ (p.kind = 2 ∧ p.var ≠ v.var) ∨ (p.kind = 3 ∧ (p.name ≠ v.name ∨ p.args.length ≠ v.args.length)) := by
    simpa [or_assoc] using hb
   rw [if_pos hb] at hfe
   rw [hfe]
   apply W.sr
   apply oas; rfl; rfl
   apply OL.nx
   refine W.rt ?_
   ((with_reducible apply At.fin1); rfl; rfl; intro w' hw')
   exact ⟨rfl, by (exact hw'.fr)⟩
  rw [hcast] at hb
  have hb3' : ¬ (p.kind ≠ v.kind ∨ (p.kind = 2 ∧ p.var ≠ v.var) ∨ (p.kind = 3 ∧ (p.name ≠ v.name ∨ p.args.length ≠ v.args.length))) := by
   intro hc
   have : (!decide (p.kind = v.kind) || decide (p.kind = 2) && !decide (p.var = v.var) || decide (p.kind = 3) && (!decide (p.name = v.name) || !decide (p.args.length = v.args.length))) = true := by simpa [or_assoc] using hc
   rw [this] at hb
   cases hb
  rw [if_neg hb3'] at hfe
  apply W.sk
  apply W.seq
  apply W.sr
  apply ofa; rfl; rfl; rfl
  apply old; rfl; rfl; exact .tail _ (.head _); rfl; rfl
  apply obn; rfl; rfl; rfl; apply Bin.neq
  apply OL.nx
  by_cases h3 : p.kind = 3
  ·rw [if_neg (by simp [h3])] at hfe
   refine W.cond rfl (fun hb => by simp at hb; omega) (fun _ => ?_)
   have hll : p.args.length = v.args.length := by
    refine Decidable.byContradiction fun hne => hb3' (.inr (.inr ⟨h3, .inr hne⟩))
   apply W.sk
   apply W.sr
   apply ofa; rfl; rfl; rfl
   apply old; rfl; rfl; exact .tail _ (.head _); rfl; rfl
   apply ofa; rfl; rfl; rfl
   apply old; rfl; rfl; exact .head _; rfl; rfl
   have hH : ∀ k, k < w.heap.size → NotOwned [blk b3 50 [.int .i64 v.kind, .string v.name, .int .i64 v.var, .slice z.1 v.args.length z.2], blk bk 50 [.int .i64 p.kind, .string p.name, .int .i64 p.var, .slice y.1 p.args.length y.2]] k := fun k hk => NotOwned.blk (by omega) (NotOwned.blk (by omega) .nil)
   (((first | (with_reducible apply OL.op) | (with_reducible apply QL.op)); (exact Guard.au); rfl; rfl); (refine Pev.call (v := .int .i64 (fit p v)) rfl (by exact Args.au) (fun _ w2 hw2 => ?_)))
   ·have hx2 := hw2.toExt (s := w) (.head _) hH
    have hc := FitsAll_of y.1 z.1 y.2 z.2 pz vz w2 (by omega) (by omega) (hpza.at hw2 (.head _) hH) (hvza.at hw2 (.head _) hH) (by omega) (fun a ha b hb w' hx => ih a.1 b.1 a.2 b.2 w' (by
     obtain ⟨j, hj⟩ := List.getElem?_of_mem (List.mem_map_of_mem (f := Prod.fst) ha)
     have h1 := Ty.sz_get hj
     rw [hpz] at h1
     have h2 := sz_args p
     omega) (Rel.ext (R := tyR) (hpza.el a ha) (hx2.trans hx)) (Rel.ext (R := tyR) (hvza.el b hb) (hx2.trans hx)))
    rw [hpzl2, hvzl2, hpz, hvz, ← hfe] at hc
    exact hc.mono (fun e w3 h => ⟨h.1, hw2.ext h.2⟩)
   apply oas; rfl; rfl
   apply OL.nx
   apply W.ret
   ((with_reducible apply At.fin1); rfl; rfl; intro w' hw')
   exact ⟨rfl, by (exact hw'.fr)⟩
  ·rw [if_pos h3] at hfe
   rw [hfe]
   refine W.cond rfl (fun _ => ?_) (fun hb => by simp at hb; omega)
   apply W.sr
   apply oas; rfl; rfl
   apply OL.nx
   refine W.rt ?_
   ((with_reducible apply At.fin1); rfl; rfl; intro w' hw')
   exact ⟨rfl, by (exact hw'.fr)⟩
theorem FitsAll_calls (q q2 : Option Addr) (cap cap2 : Nat) (ps vs : List (Ty × PY)) (w : World) (hlen : ps.length ≤ 9223372036854775807) (hvl : vs.length ≤ 9223372036854775807) (h : Arr tyR w (low w) ps q) (h2 : Arr tyR w (low w) vs q2) (hle : ps.length ≤ vs.length) :
  Calls Try.prog 10 [.slice q ps.length cap, .slice q2 vs.length cap2].toArray w fun e w' => e = .returned (.int .i64 (fitA (ps.map Prod.fst) (vs.map Prod.fst))) ∧ Ext w w' :=
 FitsAll_of q q2 cap cap2 ps vs w hlen hvl h h2 hle (fun p hp v hv w' hx => fits_calls (p.1.sz + 1) p.1 v.1 p.2 v.2 w' (Nat.lt_succ_self _) (Rel.ext (R := tyR) (h.el p hp) hx) (Rel.ext (R := tyR) (h2.el v hv) hx))
theorem Which_calls (q q2 : Option Addr) (cap cap2 : Nat) (rs : List (List Ty × PY)) (vs : List (Ty × PY)) (w : World) (hlen : rs.length ≤ 9223372036854775807) (hvl : vs.length ≤ 9223372036854775807) (h : Arr patsR w (low w) rs q) (h2 : Arr tyR w (low w) vs q2) (hle : ∀ r ∈ rs, r.1.length ≤ vs.length) :
  Calls Try.prog 17 [.slice q rs.length cap, .slice q2 vs.length cap2].toArray w fun e w' => e = .returned (.int .i64 (which (rs.map Prod.fst) (vs.map Prod.fst) 0)) ∧ Ext w w' := by
 refine enter Try.func17 rfl Try.ntmps17 rfl (Cls.start w) ?_
 obtain ⟨V, hV⟩ : ∃ V, vs.map Prod.fst = V := ⟨_, rfl⟩
 rw [hV]
 (simp only [argEnv, Nat.zero_add, Nat.reduceAdd])
 apply W.sr
 apply oas; rfl; rfl
 apply OL.nx
 apply W.seq
 apply W.sr
 apply omv; rfl; rfl
 apply oop; rfl; apply Pev.len_slice; rfl; exact yes; rfl
 apply omv; rfl; rfl
 apply OL.nx
 apply W.block
 refine W.loop (G := Nat) (fun i => i ≤ rs.length ∧ which ((rs.drop i).map Prod.fst) V i = which (rs.map Prod.fst) V 0) (fun i => rs.length - i)
  (fun i => [(1, true, .slice q2 vs.length cap2), (7, true, .slice q rs.length cap), (8, true, .int .i64 (rs.length : Int)), (9, true, .int .i64 (i : Int))])
  (fun i => Cls [] [w]) 0 ⟨Nat.zero_le _, rfl⟩ (by exact Sub.au) (fun w' hw' => hw') ?_
 rintro i ⟨hi, hrest⟩
 simp only at hi hrest ⊢
 apply W.sr
 apply obn; rfl; rfl; rfl; apply Bin.lss
 apply OL.nx
 apply W.seq
 (refine W.cnd (fun hlt => ?_) (fun hlt => ?_)) <;> (try (exfalso; first | omega | exact hlt trivial | contradiction))
 ·obtain ⟨a, u, rfl, hab, hu, hcell, hok⟩ := h.get (show i < rs.length by omega)
  have hab : a.block < w.heap.size := hab
  have hcell : w.cell? (a.add (i * 1)) = some (.slice u.2.1 u.1.length u.2.2) := hcell 0 _ rfl
  obtain ⟨⟨pr, hpr, hpra⟩, hrc, hrl⟩ := hok
  have hprl : pr.length = u.1.length := by rw [← hpr, List.length_map]
  have hul := hle u (List.mem_of_getElem? hu)
  have hdr : rs.drop i = u :: rs.drop (i + 1) := by
   have hl : i < rs.length := by omega
   rw [List.drop_eq_getElem_cons hl]
   rw [List.getElem?_eq_getElem hl] at hu
   rw [Option.some.inj hu]
  rw [hdr, List.map_cons, which] at hrest
  apply W.sk
  apply W.sb
  apply W.sr
  apply omv; rfl; rfl
  apply oop; rfl; apply Pev.idx; rfl; exact yes; rfl; exact yes; rfl; rfl; intro hcond; omega
  apply oop; rfl; apply Pev.load_kept; rfl; exact yes; exact .head _; rfl; intro hcond; assumption; intro hcond; (rw [add_block]; assumption); intro hcond; exact NotOwned.au
  apply oas; rfl; rfl
  apply oas; rfl; rfl
  apply OL.nsr
  apply omv; rfl; rfl
  apply omv; rfl; rfl
  (((first | (with_reducible apply OL.op) | (with_reducible apply QL.op)); (exact Guard.au); rfl; rfl); (refine Pev.call (v := .int .i64 (fitA u.1 V)) rfl (by exact Args.au) (fun _ w2 hw2 => ?_)))
  ·have hc := FitsAll_calls u.2.1 q2 u.2.2 cap2 pr vs w2 (by omega) hvl (hpra.at hw2 (.head _) (fun k hk => .nil)) (h2.at hw2 (.head _) (fun k hk => .nil)) (by omega)
   rw [hprl, hpr, hV] at hc
   exact hc.mono (fun e w3 h => ⟨h.1, hw2.ext h.2⟩)
  apply OL.nx
  apply W.block
  apply W.sr
  apply obn; rfl; rfl; rfl; apply Bin.eql
  apply oas; rfl; rfl
  apply OL.nx
  by_cases h1 : fitA u.1 V = 1
  ·rw [if_pos h1] at hrest
   rw [← hrest]
   refine W.cond rfl (fun _ => ?_) (fun hb => by simp at hb; omega)
   apply W.sr
   apply omv; rfl; rfl
   apply oas; rfl; rfl
   apply OL.nx
   refine W.rt ?_
   ((with_reducible apply At.fin1); rfl; rfl; intro w' hw')
   exact ⟨rfl, by (exact hw'.fr)⟩
  rw [if_neg h1] at hrest
  refine W.cond rfl (fun hb => by simp at hb; omega) (fun _ => ?_)
  apply W.sr
  apply obn; rfl; rfl; rfl; apply Bin.eql
  apply oas; rfl; rfl
  apply OL.nx
  by_cases h0 : fitA u.1 V = 0
  ·rw [if_pos h0] at hrest
   rw [← hrest]
   refine W.cond rfl (fun _ => ?_) (fun hb => by simp at hb; omega)
   apply W.sr
   apply oas; rfl; rfl
   apply OL.nx
   refine W.rt ?_
   ((with_reducible apply At.fin1); rfl; rfl; intro w' hw')
   exact ⟨rfl, by (exact hw'.fr)⟩
  rw [if_neg h0] at hrest
  refine W.cond rfl (fun hb => by simp at hb; omega) (fun _ => ?_)
  apply W.skip
  with_reducible apply At.in_normal
  with_reducible apply At.in_normal
  with_reducible apply At.next
  apply W.reg
  apply obn; rfl; rfl; rfl; apply Bin.add_in; omega
  apply omv; rfl; rfl
  apply OL.nil
  exact At.again (i + 1) ⟨by omega, hrest⟩ (by omega) (by exact Sub.au) (fun w' hw' => hw')
 ·rw [List.drop_eq_nil_of_le (by omega), List.map_nil, which] at hrest
  refine W.xt ?_
  with_reducible apply At.next
  apply W.sr
  apply oas; rfl; rfl
  apply OL.nx
  apply W.ret
  ((with_reducible apply At.fin1); rfl; rfl; intro w' hw')
  exact ⟨by rw [← hrest], by (exact hw'.fr)⟩
end Go.Proofs.Ytleggdmhihcafaa.pt

/- The walk of the reference's ConOf. Conditions: none. -/
namespace Go.Proofs.Ytleggdmhihcafaa.pt
open Go.RowKit Go.Eng Go.Pt
set_option maxRecDepth 100000
end Go.Proofs.Ytleggdmhihcafaa.pt

/- The walk of the reference's Split, where splitOne is known of its values. Conditions: none. -/
namespace Go.Pt
open Go.Eng Go.RowKit
def GoodP (D : List Da) (p : Ty) : Prop := Wf D p ∧ wt p ≤ 800
structure GC where
 O : Nat → Prop
 q : Option Addr
 c : Nat
 ps : List (List Ty × PY)
end Go.Pt
namespace Go.Proofs.Ytleggdmhihcafaa.pt
open Go.RowKit Go.Eng Go.Pt
set_option maxRecDepth 100000
end Go.Proofs.Ytleggdmhihcafaa.pt

/- The walk of the reference's splitOne, where Split is known of the value's parts. Conditions: none. -/
namespace Go.Pt
open Go.Eng Go.RowKit
theorem GoodP.args {D : List Da} {p : Ty} (h : GoodP D p) (hp : p.kind = 3) : p.args.length ≤ 1000 ∧ ∀ a ∈ p.args, GoodP D a := by
 obtain ⟨h1, h2⟩ := h
 have hf : free p = false := free_no (.inr hp)
 have h3 := wt_args hf
 obtain ⟨_, _, _, _, h7⟩ := h1.cons hp
 refine ⟨by omega, fun a ha => ⟨h7 a ha, ?_⟩⟩
 have h4 := wtA_mem ha
 rw [wt_eq, if_neg (by simp [hf])] at h2
 omega
structure GI where
 O : Nat → Prop
 q : Option Addr
 c : Nat
 ps : List Int
end Go.Pt
namespace Go.Proofs.Ytleggdmhihcafaa.pt
open Go.RowKit Go.Eng Go.Pt
set_option maxRecDepth 100000
end Go.Proofs.Ytleggdmhihcafaa.pt

/- The walk of the reference's Split, of any values. Conditions: none. -/
namespace Go.Proofs.Ytleggdmhihcafaa.pt
open Go.RowKit Go.Eng Go.Pt
end Go.Proofs.Ytleggdmhihcafaa.pt

/- The walk of the reference's Cover. Conditions: none. -/
namespace Go.Pt
open Go.Eng Go.RowKit
def bls (l : List Bool) : List Value := l.map fun b => .bool b
theorem bls_get {l : List Bool} {i : Nat} {b : Bool} (h : l[i]? = some b) : (bls l)[i]? = some (.bool b) := by simp [bls, h]
def BoolsO (w : World) (O : Nat → Prop) (l : List Bool) (q : Option Addr) : Prop := 0 < l.length → ∃ a, q = some a ∧ O a.block ∧ CellsAt w a (bls l)
theorem BoolsO.get {w : World} {O : Nat → Prop} {l : List Bool} {q : Option Addr} (h : BoolsO w O l q) {i : Nat} (hi : i < l.length) : ∃ a u, q = some a ∧ O a.block ∧ l[i]? = some u ∧ w.cell? (a.add (i * 1)) = some (.bool u) := by
 obtain ⟨a, h1, h2, h3⟩ := h (by omega)
 have hu : l[i]? = some l[i] := List.getElem?_eq_getElem hi
 exact ⟨a, l[i], h1, h2, hu, by rw [Nat.mul_one]; exact h3 i _ (bls_get hu)⟩
theorem BoolsO.stab {w w' : World} {O : Nat → Prop} {l : List Bool} {q : Option Addr} (hk : ∀ k, O k → w'.heap[k]? = w.heap[k]?) (h : BoolsO w O l q) : BoolsO w' O l q := fun hl => by
 obtain ⟨a, h1, h2, h3⟩ := h hl
 exact ⟨a, h1, h2, cells_stab (hk _ h2) h3⟩
theorem BoolsO.mono {w : World} {O O' : Nat → Prop} {l : List Bool} {q : Option Addr} (hk : ∀ k, O k → O' k) (h : BoolsO w O l q) : BoolsO w O' l q := fun hl => by
 obtain ⟨a, h1, h2, h3⟩ := h hl
 exact ⟨a, h1, hk _ h2, h3⟩
structure GW where
 m : Nat
 ws : List (List Ty)
 us : List Bool
 nn : Bool
 O : Nat → Prop
 q : Option Addr
 c : Nat
 it : List (List Ty × PY)
 O2 : Nat → Prop
end Go.Pt
namespace Go.Proofs.Ytleggdmhihcafaa.pt
open Go.RowKit Go.Eng Go.Pt
set_option maxRecDepth 100000
end Go.Proofs.Ytleggdmhihcafaa.pt

/- The walk of the reference's SamePats. Conditions: none. -/
namespace Go.Pt
open Go.Eng
theorem ty_ext {p q : Ty} : p = q ↔ p.kind = q.kind ∧ p.name = q.name ∧ p.var = q.var ∧ p.args = q.args := by
 cases p
 cases q
 simp [Ty.kind, Ty.name, Ty.var, Ty.args]
end Go.Pt
namespace Go.Proofs.Ytleggdmhihcafaa.pt
open Go.RowKit Go.Eng Go.Pt
set_option maxRecDepth 100000
theorem SamePats_of : ∀ (n : Nat) (ps vs : List (Ty × PY)) (q q2 : Option Addr) (cap cap2 : Nat) (w : World), Ty.szs (ps.map Prod.fst) < n → ps.length ≤ 9223372036854775807 → vs.length ≤ 9223372036854775807 → Arr tyR w (low w) ps q → Arr tyR w (low w) vs q2 →
  Calls Try.prog 19 [.slice q ps.length cap, .slice q2 vs.length cap2].toArray w fun e w' => e = .returned (.bool (@decide (ps.map Prod.fst = vs.map Prod.fst) (Classical.propDecidable _))) ∧ Ext w w' := by
 intro n
 induction n with
 | zero => intro ps vs q q2 cap cap2 w hn; omega
 | succ n ih =>
  intro ps vs q q2 cap cap2 w hn hpl hvl h h2
  refine enter Try.func19 rfl Try.ntmps19 rfl (Cls.start w) ?_
  obtain ⟨P, hP⟩ : ∃ P, ps.map Prod.fst = P := ⟨_, rfl⟩
  obtain ⟨V, hV⟩ : ∃ V, vs.map Prod.fst = V := ⟨_, rfl⟩
  have hPl : P.length = ps.length := by rw [← hP, List.length_map]
  have hVl : V.length = vs.length := by rw [← hV, List.length_map]
  rw [hP] at hn
  rw [hP, hV]
  (simp only [argEnv, Nat.zero_add, Nat.reduceAdd])
  apply W.sr
  apply oas; rfl; rfl
  apply OL.nx
  apply W.seq
  apply W.sr
  apply omv; rfl; rfl
  apply oop; rfl; apply Pev.len_slice; rfl; exact yes; rfl
  apply omv; rfl; rfl
  apply oop; rfl; apply Pev.len_slice; rfl; exact yes; rfl
  apply obn; rfl; rfl; rfl; apply Bin.neq
  apply OL.nx
  (refine W.cnd (fun hne => ?_) (fun hne => ?_)) <;> (try (exfalso; first | omega | exact hne trivial | contradiction))
  ·have hd : @decide (P = V) (Classical.propDecidable _) = false := @decide_eq_false _ (Classical.propDecidable _) (fun e => by subst e; omega)
   rw [hd]
   apply W.sr
   apply oas; rfl; rfl
   apply OL.nx
   refine W.rt ?_
   ((with_reducible apply At.fin1); rfl; rfl; intro w' hw')
   exact ⟨rfl, by (exact hw'.fr)⟩
  have hll : ps.length = vs.length := by omega
  apply W.sk
  apply W.seq
  apply W.sr
  apply omv; rfl; rfl
  apply oop; rfl; apply Pev.len_slice; rfl; exact yes; rfl
  apply omv; rfl; rfl
  apply OL.nx
  apply W.block
  refine W.loop (G := Nat) (fun i => i ≤ ps.length ∧ P.take i = V.take i) (fun i => ps.length - i)
   (fun i => [(1, true, .slice q2 vs.length cap2), (13, true, .slice q ps.length cap), (14, true, .int .i64 (ps.length : Int)), (15, true, .int .i64 (i : Int))])
   (fun i => Cls [] [w]) 0 ⟨Nat.zero_le _, rfl⟩ (by exact Sub.au) (fun w' hw' => hw') ?_
  rintro i ⟨hi, hi0⟩
  simp only at hi hi0 ⊢
  apply W.sr
  apply obn; rfl; rfl; rfl; apply Bin.lss
  apply OL.nx
  apply W.seq
  (refine W.cnd (fun hlt => ?_) (fun hlt => ?_)) <;> (try (exfalso; first | omega | exact hlt trivial | contradiction))
  ·obtain ⟨a, u, rfl, hab, hu, hcell, hok⟩ := h.get (show i < ps.length by omega)
   obtain ⟨a2, v, rfl, hab2, hv, hcell2, hok2⟩ := h2.get (show i < vs.length by omega)
   have hab : a.block < w.heap.size := hab
   have hab2 : a2.block < w.heap.size := hab2
   have hcell : CellsAt w (a.add (i * 4)) [.int .i64 u.1.kind, .string u.1.name, .int .i64 u.1.var, .slice u.2.1 u.1.args.length u.2.2] := hcell
   have hcell2 : CellsAt w (a2.add (i * 4)) [.int .i64 v.1.kind, .string v.1.name, .int .i64 v.1.var, .slice v.2.1 v.1.args.length v.2.2] := hcell2
   have hPu : P[i]? = some u.1 := by rw [← hP, List.getElem?_map, hu]; rfl
   have hVv : V[i]? = some v.1 := by rw [← hV, List.getElem?_map, hv]; rfl
   obtain ⟨pz, hpz, hpza, hpzl, _⟩ := pat_kids hok
   obtain ⟨vz, hvz, hvza, hvzl, _⟩ := pat_kids hok2
   have hpzl2 : pz.length = u.1.args.length := by rw [← hpz, List.length_map]
   have hvzl2 : vz.length = v.1.args.length := by rw [← hvz, List.length_map]
   have hsz : Ty.szs (pz.map Prod.fst) < n := by
    have h1 := Ty.sz_get hPu
    have h2 := sz_args u.1
    rw [hpz]
    omega
   apply W.sk
   apply W.sb
   apply W.sr
   apply omv; rfl; rfl
   apply oop; rfl; apply Pev.idx; rfl; exact yes; rfl; exact yes; rfl; rfl; intro hcond; omega
   apply oop; rfl; apply Pev.load_keptA; rfl; exact yes; exact .head _; rfl; intro hcond; assumption; rfl; intro hcond; (rw [add_block]; assumption); intro hcond; exact NotOwned.au
   apply OL.alloc; rfl; rfl; exact CellsL.agg; (intro bk hbk; simp only [AllLe, and_true] at hbk)
   apply oas; rfl; rfl
   apply OL.storeB; rfl; rfl; exact CellsL.agg; rfl; rfl; rfl; exact Swap.au; exact Put.au
   apply OL.nsr
   apply omv; rfl; rfl
   apply omv; rfl; rfl
   apply oop; rfl; apply Pev.idx; rfl; exact yes; rfl; exact yes; rfl; rfl; intro hcond; omega
   apply oop; rfl; apply Pev.load_keptA; rfl; exact yes; exact .head _; rfl; intro hcond; assumption; rfl; intro hcond; (rw [add_block]; assumption); intro hcond; exact NotOwned.au
   apply OL.alloc; rfl; rfl; exact CellsL.agg; (intro bk hbk; simp only [AllLe, and_true] at hbk)
   apply OL.storeB; rfl; rfl; exact CellsL.agg; rfl; rfl; rfl; exact Swap.au; exact Put.au
   apply OL.nsr
   apply ofa; rfl; rfl; rfl
   apply old; rfl; rfl; exact .tail _ (.head _); rfl; rfl
   apply ofa; rfl; rfl; rfl
   apply old; rfl; rfl; exact .head _; rfl; rfl
   apply obn; rfl; rfl; rfl; apply Bin.neq
   apply omv; rfl; rfl
   apply ono; rfl; rfl; rfl; apply Pev.fld; rfl; exact yes; rfl
   apply ono; rfl; rfl; rfl; apply Pev.load_blk; rfl; exact fun h => h; exact .tail _ (.head _); rfl; rfl
   apply ono; rfl; rfl; rfl; apply Pev.fld; rfl; exact yes; rfl
   apply ono; rfl; rfl; rfl; apply Pev.load_blk; rfl; exact fun h => h; exact .head _; rfl; rfl
   apply ono; rfl; rfl; rfl; apply Pev.bin; rfl; exact fun h => h; rfl; exact fun h => h; intro hcond; apply Bin.str_neq
   apply oop; rfl; apply Pev.pick_or; rfl; exact yes; rfl; exact fun h => h
   apply omv; rfl; rfl
   apply ono; rfl; rfl; rfl; apply Pev.fld; rfl; exact yes; rfl
   apply ono; rfl; rfl; rfl; apply Pev.load_blk; rfl; exact fun h => h; exact .tail _ (.head _); rfl; rfl
   apply ono; rfl; rfl; rfl; apply Pev.fld; rfl; exact yes; rfl
   apply ono; rfl; rfl; rfl; apply Pev.load_blk; rfl; exact fun h => h; exact .head _; rfl; rfl
   apply ono; rfl; rfl; rfl; apply Pev.bin; rfl; exact fun h => h; rfl; exact fun h => h; intro hcond; apply Bin.neq
   apply oop; rfl; apply Pev.pick_or; rfl; exact yes; rfl; exact fun h => h
   apply omv; rfl; rfl
   apply ono; rfl; rfl; rfl; apply Pev.fld; rfl; exact yes; rfl
   apply ono; rfl; rfl; rfl; apply Pev.load_blk; rfl; exact fun h => h; exact .tail _ (.head _); rfl; rfl
   apply ono; rfl; rfl; rfl; apply Pev.fld; rfl; exact yes; rfl
   apply ono; rfl; rfl; rfl; apply Pev.load_blk; rfl; exact fun h => h; exact .head _; rfl; rfl
   rename_i b6 hb6
   (((first | (with_reducible apply OL.op) | (with_reducible apply QL.op)); (exact Guard.au); rfl; rfl); (refine Pev.call (v := .bool (@decide (u.1.args = v.1.args) (Classical.propDecidable _))) rfl (by exact Args.au) (fun _ w2 hw2 => ?_)))
   ·have hH : ∀ k, k < w.heap.size → NotOwned [blk bk 50 [.int .i64 v.1.kind, .string v.1.name, .int .i64 v.1.var, .slice v.2.1 v.1.args.length v.2.2], blk b6 50 [.int .i64 u.1.kind, .string u.1.name, .int .i64 u.1.var, .slice u.2.1 u.1.args.length u.2.2]] k := fun k hk => NotOwned.blk (by omega) (NotOwned.blk (by omega) .nil)
    have hc := ih pz vz u.2.1 v.2.1 u.2.2 v.2.2 w2 hsz (by omega) (by omega) (hpza.at hw2 (.head _) hH) (hvza.at hw2 (.head _) hH)
    rw [hpzl2, hvzl2, hpz, hvz] at hc
    exact hc.mono (fun e w3 h => ⟨h.1, hw2.ext h.2⟩)
   apply ono; rfl; rfl; rfl; apply Pev.not; rfl; exact fun h => h
   apply oop; rfl; apply Pev.pick_or; rfl; exact yes; rfl; exact fun h => h
   apply OL.nx
   by_cases heq : u.1 = v.1
   ·refine W.cond rfl (fun hb => ?_) (fun _ => ?_)
    ·exfalso
     rw [heq] at hb
     simp at hb
    ·apply W.skip
     with_reducible apply At.in_normal
     with_reducible apply At.next
     apply W.reg
     apply obn; rfl; rfl; rfl; apply Bin.add_in; omega
     apply omv; rfl; rfl
     apply OL.nil
     exact At.again (i + 1) ⟨by omega, by rw [List.take_add_one, List.take_add_one, hPu, hVv, hi0, heq]⟩ (by omega) (by exact Sub.au) (fun w' hw' => hw'.thin (by exact Thin.au))
   ·have hd : @decide (P = V) (Classical.propDecidable _) = false := @decide_eq_false _ (Classical.propDecidable _) (fun e => heq (by
     rw [e, hVv] at hPu
     exact (Option.some.inj hPu).symm))
    refine W.cond rfl (fun _ => ?_) (fun hb => ?_)
    ·rw [hd]
     apply W.sr
     apply oas; rfl; rfl
     apply OL.nx
     refine W.rt ?_
     ((with_reducible apply At.fin1); rfl; rfl; intro w' hw')
     exact ⟨rfl, by (exact hw'.fr)⟩
    ·exfalso
     apply heq
     rw [ty_ext]
     simpa [and_assoc] using hb
  ·obtain rfl : i = ps.length := by omega
   have hd : @decide (P = V) (Classical.propDecidable _) = true := @decide_eq_true _ (Classical.propDecidable _) (by rw [← hPl, List.take_length, hPl, hll, ← hVl, List.take_length] at hi0; exact hi0)
   rw [hd]
   refine W.xt ?_
   with_reducible apply At.next
   apply W.sr
   apply oas; rfl; rfl
   apply OL.nx
   apply W.ret
   ((with_reducible apply At.fin1); rfl; rfl; intro w' hw')
   exact ⟨rfl, by (exact hw'.fr)⟩
end Go.Proofs.Ytleggdmhihcafaa.pt

/- The walk of patterns.Redundant. Conditions: none. -/
namespace Go.Pt
open Go.Eng Go.RowKit
def redB (D : List Da) (R : List (List Ty)) (k : Nat) : Bool := match R[k]? with
 | some r => !usefulE D (wtR (R.take k) + wtA r + r.length + 1) (R.take k) r
 | none => false
def redL (D : List Da) (R : List (List Ty)) (n : Nat) : List Int := ((List.range n).filter fun k => redB D R k).map fun (k : Nat) => (k : Int)
def redR (D : List Da) (R : List (List Ty)) : List Int × Int := if checkE D R ≠ 0 then ([], checkE D R) else (redL D R R.length, 0)
theorem redL_succ (D : List Da) (R : List (List Ty)) (n : Nat) : redL D R (n + 1) = redL D R n ++ if redB D R n then [(n : Int)] else [] := by
 unfold redL
 rw [List.range_succ, List.filter_append, List.map_append]
 congr 1
 cases h : redB D R n <;> simp [h]
theorem redL_len (D : List Da) (R : List (List Ty)) (n : Nat) : (redL D R n).length ≤ n := by
 unfold redL
 rw [List.length_map]
 have := List.length_filter_le (fun k => redB D R k) (List.range n)
 rw [List.length_range] at this
 exact this
theorem check_row {D : List Da} {R : List (List Ty)} {k : Nat} {r : List Ty} (h : checkE D R = 0) (hr : R[k]? = some r) : Uniq D ∧ R.length ≤ 64 ∧ wtR R ≤ 800 ∧ r.length ≤ 16 ∧ Mat D (r :: R.take k) r.length ∧ wtR (R.take k) + wtA r ≤ 1600 := by
 obtain ⟨h1, h2, h3, cols, h4, h5, h6⟩ := checkE_ok h
 have hm := List.mem_of_getElem? hr
 have e := h6.len r hm
 have hwr : wtA r ≤ wtR R := wtR_mem hm
 have hwt : ∀ (k : Nat) (R : List (List Ty)), wtR (R.take k) ≤ wtR R := fun k => by
  induction k with
  | zero => intro R; simp [wtR]
  | succ k ih =>
   intro R
   cases R with
   | nil => simp
   | cons x t =>
    have := ih t
    rw [List.take_succ_cons, wtR, wtR]
    omega
 have := hwt k R
 refine ⟨h1, h2, h3, by omega, ?_, by omega⟩
 rw [e]
 refine h6.mono (fun s hs => ?_)
 rcases List.mem_cons.1 hs with rfl | hs
 ·exact hm
 ·exact List.mem_of_mem_take hs
end Go.Pt
namespace Go.Proofs.Ytleggdmhihcafaa.pt
open Go.RowKit Go.Eng Go.Pt
set_option maxRecDepth 100000
theorem Redundant_calls (qd : Option Addr) (cd : Nat) (ds : List (Da × DY)) (q : Option Addr) (cap : Nat) (rs : List (List Ty × PY)) (w : World) (hdl : ds.length ≤ 9223372036854775807) (hd : Arr datR w (low w) ds qd) (hlen : rs.length ≤ 9223372036854775807) (hcap : rs.length ≤ cap) (h : Arr patsR w (low w) rs q) :
  Calls Try.prog 11 [.slice qd ds.length cd, .slice q rs.length cap].toArray w fun e w' => ∃ q' c', e = .returned (.tuple #[.slice q' (redR (ds.map Prod.fst) (rs.map Prod.fst)).1.length c', .int .i64 (redR (ds.map Prod.fst) (rs.map Prod.fst)).2]) ∧ IntsO w' (fresh w w') (redR (ds.map Prod.fst) (rs.map Prod.fst)).1 q' ∧ Ext w w' := by
 refine enter Try.func11 rfl Try.ntmps11 rfl (Cls.start w) ?_
 obtain ⟨D, hD⟩ : ∃ D, ds.map Prod.fst = D := ⟨_, rfl⟩
 obtain ⟨R, hR⟩ : ∃ R, rs.map Prod.fst = R := ⟨_, rfl⟩
 have hRl : R.length = rs.length := by rw [← hR, List.length_map]
 rw [hD, hR]
 (simp only [argEnv, Nat.zero_add, Nat.reduceAdd])
 apply W.sr
 apply oas; rfl; rfl
 apply oas; rfl; rfl
 apply OL.nsr
 apply omv; rfl; rfl
 apply omv; rfl; rfl
 by_cases h0 : checkE D R ≠ 0
 ·have hm : redR D R = ([], checkE D R) := by unfold redR; rw [if_pos h0]
  rw [hm]
  refine OL.callE (α := Unit) (fun z => .tuple #[.agg #[.slice none 0 0, .map none], .int .i64 (checkE D R)]) (fun T => True) (fun T => Cls [] [w]) rfl rfl (by exact Args.au) (fun w2 hw2 => ?_) ?_
  ·refine (check_calls qd cd ds q cap rs w2 hdl (hd.at hw2 (.head _) (fun k hk => by exact NotOwned.au)) hlen (h.at hw2 (.head _) (fun k hk => by exact NotOwned.au))).mono (fun e w3 h => ?_)
   rw [hD, hR, if_neg h0] at h
   exact ⟨(), h.2, trivial, hw2.ext h.1⟩
  intro _ _
  apply omv; rfl; rfl
  apply oex; rfl; rfl; rfl
  apply oex; rfl; rfl; rfl
  apply OL.alloc; rfl; rfl; exact CellsL.agg; (intro bk hbk; simp only [AllLe, and_true] at hbk)
  apply OL.storeB; rfl; rfl; exact CellsL.agg; rfl; rfl; rfl; exact Swap.au; exact Put.au
  apply oas; rfl; rfl
  apply OL.nx
  apply W.seq
  apply W.sr
  apply omv; rfl; rfl
  apply obn; rfl; rfl; rfl; apply Bin.neq
  apply OL.nx
  refine W.cond rfl (fun _ => ?_) (fun hb => by simp at hb; omega)
  apply W.sr
  apply omv; rfl; rfl
  apply oas; rfl; rfl
  apply oas; rfl; rfl
  apply OL.nx
  refine W.rt ?_
  ((with_reducible apply At.fin2); rfl; rfl; rfl; intro w' hw')
  exact ⟨none, 0, rfl, IntsO.nil, by (exact hw'.fr)⟩
 have h0 : checkE D R = 0 := Decidable.not_not.1 h0
 have hm : redR D R = (redL D R R.length, 0) := by unfold redR; rw [if_neg (by simp [h0])]
 rw [hm]
 refine OL.callE (α := TT × World) (fun z => .tuple #[.agg #[.slice z.1.q z.1.ds.length z.1.c, .map (some z.1.b)], .int .i64 0]) (fun z => z.1.ds = ds ∧ z.1.ok z.2 ∧ Ext w z.2) (fun z => Cls [] [z.2, w]) rfl rfl (by exact Args.au) (fun w2 hw2 => ?_) ?_
 ·refine (check_calls qd cd ds q cap rs w2 hdl (hd.at hw2 (.head _) (fun k hk => by exact NotOwned.au)) hlen (h.at hw2 (.head _) (fun k hk => by exact NotOwned.au))).mono (fun e w3 h => ?_)
  rw [hD, hR, if_pos h0] at h
  obtain ⟨hx, T, h1, h2, h3⟩ := h
  exact ⟨(T, w3), h3, ⟨h1, h2, (hw2.ext hx).toExt (.head _) (fun k hk => .nil)⟩, (hw2.ext hx).note⟩
 rintro ⟨T, w1⟩ ⟨hTd, hT1, hx1⟩
 simp only at hTd hT1 hx1 ⊢
 have hw1s := hx1.size
 have hTD : T.D = D := by rw [← hD, ← hTd]; rfl
 obtain ⟨_, hR64, _⟩ := checkE_ok h0
 apply omv; rfl; rfl
 apply oex; rfl; rfl; rfl
 apply oex; rfl; rfl; rfl
 apply OL.alloc; rfl; rfl; exact CellsL.agg; (intro bk hbk; simp only [AllLe, and_true] at hbk)
 apply OL.storeB; rfl; rfl; exact CellsL.agg; rfl; rfl; rfl; exact Swap.au; exact Put.au
 apply oas; rfl; rfl
 apply OL.nx
 apply W.seq
 apply W.sr
 apply omv; rfl; rfl
 apply obn; rfl; rfl; rfl; apply Bin.neq
 apply OL.nx
 refine W.cond rfl (fun hb => by simp at hb) (fun _ => ?_)
 apply W.sk
 apply W.sr
 apply oas; rfl; rfl
 apply OL.nx
 apply W.seq
 apply W.sr
 apply omv; rfl; rfl
 apply oop; rfl; apply Pev.len_slice; rfl; exact yes; rfl
 apply omv; rfl; rfl
 apply OL.nx
 apply W.block
 revert bk
 intro b6 hb6
 refine W.loop (G := Nat × (Nat → Prop) × Option Addr × Nat) (fun g => g.1 ≤ rs.length) (fun g => rs.length - g.1)
  (fun g => [(1, true, .slice q rs.length cap), (6, true, .pointer (some ⟨b6, 0, none⟩)), (8, true, .slice g.2.2.1 (redL D R g.1).length g.2.2.2), (20, true, .slice q rs.length cap), (21, true, .int .i64 (rs.length : Int)), (22, true, .int .i64 (g.1 : Int))])
  (fun g => Cls [row w1.heap.size g.2.1 g.2.2.1 (redL D R g.1).length g.2.2.2 3 1 (intV (redL D R g.1)), blk b6 55 [.slice T.q T.ds.length T.c, .map (some T.b)]] [w1, w]) (0, fun _ => False, none, 0) (Nat.zero_le _) (by exact Sub.au) (fun w' hw' => hw'.row_nil w1.heap.size 3 1) ?_
 rintro ⟨i, O, q1, c1⟩ hi
 simp only at hi ⊢
 have hrl := redL_len D R i
 apply W.sr
 apply obn; rfl; rfl; rfl; apply Bin.lss
 apply OL.nx
 apply W.seq
 (refine W.cnd (fun hlt => ?_) (fun hlt => ?_)) <;> (try (exfalso; first | omega | exact hlt trivial | contradiction))
 ·obtain ⟨a, u, hqa, hab, hu, hcell, hok⟩ := h.get (show i < rs.length by omega)
  have hcell : w.cell? (a.add (i * 1)) = some (.slice u.2.1 u.1.length u.2.2) := hcell 0 _ rfl
  have hRu : R[i]? = some u.1 := by rw [← hR, List.getElem?_map, hu]; rfl
  obtain ⟨⟨pr, hpr, hpra⟩, hrc, hrl2⟩ := hok
  have hprl : pr.length = u.1.length := by rw [← hpr, List.length_map]
  obtain ⟨hU, _, hwt, hl16, hM, hsum⟩ := check_row h0 hRu
  have hti : (rs.take i).length = i := by rw [List.length_take]; omega
  have htm : (rs.take i).map Prod.fst = R.take i := by rw [← hR, List.map_take]
  have hst := redL_succ D R i
  have hrb : redB D R i = !usefulE D (wtR (R.take i) + wtA u.1 + u.1.length + 1) (R.take i) u.1 := by unfold redB; rw [hRu]
  have hH : ∀ k, k < w1.heap.size → NotOwned [row w1.heap.size O q1 (redL D R i).length c1 3 1 (intV (redL D R i)), blk b6 55 [.slice T.q T.ds.length T.c, .map (some T.b)]] k := fun k hk => NotOwned.row (by omega) (NotOwned.blk (by omega) .nil)
  rw [hqa]
  apply W.sk
  apply W.sb
  apply W.sr
  apply omv; rfl; rfl
  apply oop; rfl; apply Pev.idx; rfl; exact yes; rfl; exact yes; rfl; rfl; intro hcond; omega
  apply oop; rfl; apply Pev.load_kept; rfl; exact yes; exact .tail _ (.head _); rfl; intro hcond; assumption; intro hcond; (rw [add_block]; assumption); intro hcond; exact NotOwned.au
  apply oas; rfl; rfl
  apply oas; rfl; rfl
  apply OL.nx
  apply W.seq
  apply W.regd0; decide +kernel; kernel_rfl; decide +kernel; exact fun w hw => hw.drew
  apply qop; rfl; apply Pev.load_blkA; rfl; exact yes; exact .tail _ (.head _); rfl; exact Take.au
  apply qmv; rfl; rfl
  apply qmv; rfl; rfl
  apply qop; rfl; apply Pev.slice_hi; rfl; exact yes; rfl; exact yes; rfl; rfl; intro hcond; omega
  apply qmv; rfl; rfl
  (((first | (with_reducible apply OL.op) | (with_reducible apply QL.op)); (exact Guard.au); rfl; rfl); (refine Pev.call (v := .bool (!redB D R i)) (vs := [.agg #[.slice T.q T.ds.length T.c, .map (some T.b)], .slice (some a) i cap, .slice u.2.1 u.1.length u.2.2]) rfl (by exact Args.au) (fun _ w2 hw2 => ?_)))
  ·have hc := useful_calls T (wtR (R.take i) + wtA u.1 + u.1.length + 1) (some a) cap (rs.take i) u.2.1 u.2.2 pr w2 (hT1.at hw2 (.head _) hH) (by omega) (((by rw [← hqa]; exact h.take i : Arr patsR w (low w) (rs.take i) (some a))).at hw2 (.tail _ (.head _)) (fun k hk => hH k (by omega))) (hpra.at hw2 (.tail _ (.head _)) (fun k hk => hH k (by omega))) (by omega) (by rw [hTD, htm, hprl, hpr]; exact hM) (by rw [htm, hpr, hprl]; omega) (by rw [htm, hpr, hprl]; omega)
   rw [hTD, htm, hpr, hti, hprl] at hc
   unfold TT.v at hc
   rw [hrb, Bool.not_not]
   exact hc.mono (fun e w3 h => ⟨h.1, hw2.ext h.2⟩)
  apply qop; rfl; apply Pev.not; rfl; exact yes
  apply QL.nil
  with_reducible apply At.next
  refine W.cond rfl (fun hb => ?_) (fun hb => ?_)
  ·have hb : redB D R i = true := by simpa using hb
   rw [if_pos hb] at hst
   have e1 : (redL D R i).length + 1 = (redL D R (i + 1)).length := by rw [hst]; simp
   have e2 : intV (redL D R i) ++ [Value.int .i64 (i : Int)] = intV (redL D R (i + 1)) := by rw [hst, intV_append]; rfl
   apply W.reg
   apply omv; rfl; rfl
   apply omv; rfl; rfl
   apply OL.buildSlice; rfl; rfl; rfl; exact Elems.au; rfl; rfl; (intro bk hbk; simp only [AllLe, and_true] at hbk)
   apply OL.append; rfl; rfl; rfl; rfl; exact Hole.au; exact .head _; exact Take.au; rfl; rfl; exact ⟨_, .head _, Nat.le_refl _⟩; omega; intro O1 g1 cap1
   apply oas; rfl; rfl
   apply OL.nil
   with_reducible apply At.in_normal
   with_reducible apply At.next
   apply W.reg
   apply obn; rfl; rfl; rfl; apply Bin.add_in; omega
   apply omv; rfl; rfl
   apply OL.nil
   rw [e1, e2]
   exact At.again (i + 1, O1, some ⟨g1, 0, none⟩, cap1) (by simp only; omega) (by simp only; omega) (by exact Sub.au) (fun w' hw' => hw'.thin (by exact Thin.au))
  ·have hb : redB D R i = false := by simpa using hb
   rw [hb] at hst
   have hst : redL D R (i + 1) = redL D R i := by rw [hst]; simp
   apply W.skip
   with_reducible apply At.in_normal
   with_reducible apply At.next
   apply W.reg
   apply obn; rfl; rfl; rfl; apply Bin.add_in; omega
   apply omv; rfl; rfl
   apply OL.nil
   exact At.again (i + 1, O, q1, c1) (by simp only; omega) (by simp only; omega) (by simp only [hst]; exact Sub.au) (fun w' hw' => by simp only [hst]; exact hw'.thin (by exact Thin.au))
 ·obtain rfl : i = rs.length := by omega
  refine W.xt ?_
  with_reducible apply At.next
  apply W.sr
  apply omv; rfl; rfl
  apply oas; rfl; rfl
  apply oas; rfl; rfl
  apply OL.nx
  apply W.ret
  ((with_reducible apply At.fin2); rfl; rfl; rfl; intro w' hw')
  rw [hRl]
  refine ⟨q1, c1, rfl, fun hl => ?_, hw'.toExt (s := w) (.tail _ (.head _)) (fun k hk => NotOwned.row (by omega) (NotOwned.blk (by omega) .nil))⟩
  have hr := hw'.item (.head _)
  obtain ⟨a, h1, h2, h3⟩ := SlAt.of_row hr (by rw [intV_length]; exact hl)
  refine ⟨a, h1, ⟨?_, h2⟩, h3⟩
  rcases hr.2.2 with ⟨h4, h5⟩ | ⟨g, cap', cur, h4, h5, _⟩
  ·simp only [Value.slice.injEq] at h4
   rw [h4.1] at h1; cases h1
  ·simp only [Value.slice.injEq] at h4
   rw [h4.1] at h1
   obtain rfl := Option.some.inj h1
   exact Nat.le_trans hw1s h5
end Go.Proofs.Ytleggdmhihcafaa.pt

/- The laws' fixed example. Conditions: none. -/
namespace Go.Pt
open Go.Eng
def nNil : ByteArray := ⟨#[78, 105, 108]⟩
def nCons : ByteArray := ⟨#[67, 111, 110, 115]⟩
def nNope : ByteArray := ⟨#[78, 111, 112, 101]⟩
def listsD : List Da := [⟨[⟨nNil, 0⟩, ⟨nCons, 2⟩]⟩]
def tNil : Ty := .mk 3 nNil 0 []
def tCons : Ty := .mk 3 nCons 0 (anys 2)
def tNope : Ty := .mk 3 nNope 0 []
theorem fix1 : missR listsD [[tNil]] 1 = ([tCons], 0) := by rfl
theorem fix2 : redR listsD [[anyT], [tNil]] = ([1], 0) := by rfl
theorem fix3 : checkE listsD [[tNope]] = 6 := by decide +kernel
end Go.Pt
namespace Go.Proofs.Ytleggdmhihcafaa.pt
open Go.RowKit Go.Eng Go.Pt
set_option maxRecDepth 100000
theorem lists_calls (w : World) :
  Calls Try.prog 18 #[] w fun e w' => ∃ (q : Option Addr) (c : Nat) (ds : List (Da × DY)), e = .returned (.slice q ds.length c) ∧ ds.map Prod.fst = listsD ∧ Arr datR w' (fresh w w') ds q ∧ Ext w w' := by
 refine enter Try.func18 rfl Try.ntmps18 rfl (Cls.start w) ?_
 (simp only [argEnv, Nat.zero_add, Nat.reduceAdd])
 apply W.sr
 apply oas; rfl; rfl
 apply OL.nsr
 apply oop; rfl; apply Pev.build; rfl; exact CellsL.agg; rfl; exact Fill.au; rfl
 refine OL.makeSliceK (f := tyR.c) (x0 := (anyT, (none, 0))) (m := 2) rfl rfl rfl rfl rfl rfl rfl rfl (by omega) (fun b2 hb2 => ?_)
 simp only [AllLe, and_true] at hb2
 apply oop; rfl; apply Pev.build; rfl; exact CellsL.agg; rfl; exact Fill.au; rfl
 apply OL.buildSlice; rfl; rfl; rfl; exact Elems.au; rfl; rfl; (intro bk hbk; simp only [AllLe, and_true] at hbk)
 apply oop; rfl; apply Pev.build; rfl; exact CellsL.agg; rfl; exact Fill.au; rfl
 apply OL.buildSlice; rfl; rfl; rfl; exact Elems.au; rfl; rfl; (intro bk hbk; simp only [AllLe, and_true] at hbk)
 apply oas; rfl; rfl
 apply OL.nx
 apply W.ret
 rename_i b4 hb4
 revert bk
 intro b6 hb6
 ((with_reducible apply At.fin1); rfl; rfl; intro w' hw')
 have hd6 := hw'.item (i := blk b6 89 [.string ⟨#[76, 105, 115, 116]⟩, .int .i64 0, .slice (some ⟨b4, 0, none⟩) 2 2]) (.head _)
 have hd4 := hw'.item (i := blk b4 86 [.string nNil, .slice none 0 0, .string nCons, .slice (some ⟨b2, 0, none⟩) 2 2]) (.tail _ (.head _))
 have hl6 := hw'.lt _ (.head _) b6 rfl
 have hl4 := hw'.lt _ (.tail _ (.head _)) b4 rfl
 refine ⟨some ⟨b6, 0, none⟩, 1, [(⟨[⟨nNil, 0⟩, ⟨nCons, 2⟩]⟩, ⟨⟨#[76, 105, 115, 116]⟩, 0, some ⟨b4, 0, none⟩, 2⟩)], rfl, rfl, ⟨fun _ => ⟨⟨b6, 0, none⟩, rfl, ⟨by omega, hl6⟩, fun m v hm => ?_⟩, fun p hp => ?_⟩, hw'.toExt (.head _) (fun k hk => NotOwned.blk (by omega) (NotOwned.blk (by omega) (NotOwned.blk (by omega) .nil)))⟩
 ·rw [add_mid, blk_cell hd6, Nat.zero_add]
  exact hm
 ·rw [List.mem_singleton] at hp
  rw [hp]
  refine ⟨⟨[(⟨nNil, 0⟩, (none, 0)), (⟨nCons, 2⟩, (some ⟨b2, 0, none⟩, 2))], rfl, ⟨fun _ => ⟨⟨b4, 0, none⟩, rfl, ⟨by omega, hl4⟩, fun m v hm => ?_⟩, fun x hx => ?_⟩⟩, by show 2 ≤ 9223372036854775807; omega⟩
  ·rw [add_mid, blk_cell hd4, Nat.zero_add]
   exact hm
  ·simp only [List.mem_cons, List.not_mem_nil, or_false] at hx
   rcases hx with rfl | rfl
   ·show 0 * 56 ≤ 140737488355328
    omega
   ·show 2 * 56 ≤ 140737488355328
    omega
theorem blk_at {w : World} {b : Nat} {t : TypeId} {cs : List Value} (h : (blk b t cs).holds w) : CellsAt w ⟨b, 0, none⟩ cs := fun j v hj => by
 rw [add_mid, blk_cell h, Nat.zero_add]
 exact hj
theorem arr_cells {α μ : Type} {R : Rel α μ} {w : World} {b : Nat} {l : List (α × μ)} (hc : CellsAt w ⟨b, 0, none⟩ (cat R.c l)) (hb : b < w.heap.size) (hok : ∀ p ∈ l, R.ok w (low w) p.1 p.2) : Arr R w (low w) l (some ⟨b, 0, none⟩) := ⟨fun _ => ⟨⟨b, 0, none⟩, rfl, hb, hc⟩, hok⟩
theorem flat_ok (w : World) (O : Nat → Prop) {k n : Int} {nm : ByteArray} (hk : I64 k) (hn : I64 n) : TyO w O (.mk k nm n []) (none, 0) := TyO.of_parts (ps := []) hk hn (by simp) (Nat.le_refl _) Arr.nil
theorem row_ok {w : World} {b : Nat} {t : Ty} (hc : CellsAt w ⟨b, 0, none⟩ (tyc t (none, 0))) (hb : b < w.heap.size) (ht : TyO w (low w) t (none, 0)) : patsR.ok w (low w) [t] (some ⟨b, 0, none⟩, 1) :=
 ⟨⟨[(t, (none, 0))], rfl, arr_cells (R := tyR) (by rw [show cat tyR.c [(t, ((none, 0) : PY))] = tyc t (none, 0) by simp only [cat, List.append_nil]; rfl]; exact hc) hb (fun p hp => by
  rw [List.mem_singleton] at hp
  rw [hp]
  exact ht)⟩, by simp, by simp⟩
theorem patternsWork_calls (w : World) :
  Calls Try.prog 6 #[] w fun e w' => e = .returned (.bool true) ∧ Ext w w' := by
 refine enter Try.func6 rfl Try.ntmps6 rfl (Cls.start w) ?_
 (simp only [argEnv, Nat.zero_add, Nat.reduceAdd])
 apply W.sr
 apply oas; rfl; rfl
 apply OL.nsr
 apply oop; rfl; apply Pev.build; rfl; exact CellsL.agg; rfl; exact Fill.au; rfl
 apply OL.buildSlice; rfl; rfl; rfl; exact Elems.au; rfl; rfl; (intro bk hbk; simp only [AllLe, and_true] at hbk)
 apply oas; rfl; rfl
 apply OL.nsr
 revert bk
 intro b7 hb7
 refine OL.callE (α := (Option Addr × Nat × List (Da × DY)) × World) (fun y => .slice y.1.1 y.1.2.2.length y.1.2.1) (fun y => y.1.2.2.map Prod.fst = listsD ∧ Arr datR y.2 (low y.2) y.1.2.2 y.1.1 ∧ Ext w y.2 ∧ b7 < y.2.heap.size ∧ CellsAt y.2 ⟨b7, 0, none⟩ (tyc tNil (none, 0))) (fun y => Cls [] [y.2, w]) rfl rfl (by exact Args.au) (fun w2 hw2 => ?_) ?_
 ·refine (lists_calls w2).mono ?_
  rintro e w3 ⟨q', c', ds, h1, h2, h3, h4⟩
  have hx2 := (hw2.ext h4).toExt (s := w) (.head _) (fun k hk => NotOwned.blk (by omega) .nil)
  have hlt := (hw2.ext h4).lt _ (.head _) b7 rfl
  exact ⟨((q', c', ds), w3), h1, ⟨h2, h3.mono (fun k hk => hk.2), hx2, hlt, blk_at ((hw2.ext h4).item (.head _))⟩, ((hw2.ext h4).thin (.blk ⟨hb7, trivial⟩ Thin.same)).note⟩
 rintro ⟨⟨qd, cd, ds⟩, w1⟩ ⟨hds, hda, hx1, hb71, hc71⟩
 simp only at hds hda hx1 hb71 hc71 ⊢
 have hdl : ds.length = 1 := by
  have := congrArg List.length hds
  rw [List.length_map] at this
  exact this
 have hw1s := hx1.size
 apply omv; rfl; rfl
 apply OL.buildSlice; rfl; rfl; rfl; exact Elems.au; rfl; rfl; (intro bk hbk; simp only [AllLe, and_true] at hbk)
 revert bk
 intro b11 hb11
 refine OL.callE (α := (Option Addr × Nat × List (Ty × PY)) × World) (fun y => .tuple #[.slice y.1.1 y.1.2.2.length y.1.2.1, .int .i64 0]) (fun y => y.1.2.2.map Prod.fst = [tCons] ∧ Arr tyR y.2 (low y.2) y.1.2.2 y.1.1 ∧ Ext w1 y.2) (fun y => Cls [] [y.2, w1, w]) rfl rfl (by exact Args.au) (fun w2 hw2 => ?_) ?_
 ·have hH2 : ∀ k, k < w1.heap.size → NotOwned [blk b11 25 [.slice (some ⟨b7, 0, none⟩) 1 1]] k := fun k hk => NotOwned.blk (by omega) .nil
  have hc7 : CellsAt w2 ⟨b7, 0, none⟩ (tyc tNil (none, 0)) := cells_stab (hw2.same (.head _) hH2 b7 hb71) hc71
  have hb7' : b7 < w2.heap.size := hw2.up (.head _) b7 hb71
  have hc := Missing_calls qd cd ds (some ⟨b11, 0, none⟩) 1 [([tNil], ((some ⟨b7, 0, none⟩, 1) : PY))] 1 w2 (by omega) (hda.at hw2 (.head _) hH2) (by simp) (arr_cells (R := patsR) (blk_at (hw2.item (.head _))) (hw2.lt _ (.head _) b11 rfl) (fun p hp => by
   rw [List.mem_singleton] at hp
   rw [hp]
   exact row_ok hc7 hb7' (flat_ok w2 _ (by simp [I64]) (by simp [I64]))))
  rw [hds, show List.map Prod.fst [([tNil], ((some ⟨b7, 0, none⟩, 1) : PY))] = [[tNil]] from rfl, fix1] at hc
  refine hc.mono ?_
  rintro e w3 ⟨q', c', ps, h1, h2, h3, h4, h5, h6⟩
  exact ⟨((q', c', ps), w3), h1, ⟨h2, h5.mono (fun k hk => hk.2), (hw2.ext h6).toExt (.head _) hH2⟩, ((hw2.ext h6).thin (.blk (by simp only [AllLe, and_true]; omega) Thin.same)).note⟩
 rintro ⟨⟨qm, cm, pm⟩, w2⟩ ⟨hpm, hpma, hx2⟩
 simp only at hpm hpma hx2 ⊢
 have hw2s := hx2.size
 have hpml : pm.length = 1 := by
  have := congrArg List.length hpm
  rw [List.length_map] at this
  exact this
 have hb72 : b7 < w2.heap.size := by omega
 have hc72 : CellsAt w2 ⟨b7, 0, none⟩ (tyc tNil (none, 0)) := cells_stab (hx2.block b7 hb71 id) hc71
 apply omv; rfl; rfl
 apply oex; rfl; rfl; rfl
 apply oex; rfl; rfl; rfl
 apply oas; rfl; rfl
 apply oas; rfl; rfl
 apply OL.nsr
 refine OL.callE (α := (Option Addr × Nat × List (Da × DY)) × World) (fun y => .slice y.1.1 y.1.2.2.length y.1.2.1) (fun y => y.1.2.2.map Prod.fst = listsD ∧ Arr datR y.2 (low y.2) y.1.2.2 y.1.1 ∧ Ext w2 y.2) (fun y => Cls [] [y.2, w2, w1, w]) rfl rfl (by exact Args.au) (fun w3 hw3 => ?_) ?_
 ·refine (lists_calls w3).mono ?_
  rintro e w4 ⟨q', c', ds, h1, h2, h3, h4⟩
  exact ⟨((q', c', ds), w4), h1, ⟨h2, h3.mono (fun k hk => hk.2), (hw3.ext h4).toExt (.head _) (fun k hk => .nil)⟩, (hw3.ext h4).note⟩
 rintro ⟨⟨qe, ce, de⟩, w3⟩ ⟨hde, hdea, hx3⟩
 simp only at hde hdea hx3 ⊢
 have hdel : de.length = 1 := by
  have := congrArg List.length hde
  rw [List.length_map] at this
  exact this
 have hw3s := hx3.size
 apply oop; rfl; apply Pev.build; rfl; exact CellsL.agg; rfl; exact Fill.au; rfl
 apply OL.buildSlice; rfl; rfl; rfl; exact Elems.au; rfl; rfl; (intro bk hbk; simp only [AllLe, and_true] at hbk)
 apply omv; rfl; rfl
 apply OL.buildSlice; rfl; rfl; rfl; exact Elems.au; rfl; rfl; (intro bk hbk; simp only [AllLe, and_true] at hbk)
 rename_i b18 hb18
 revert bk
 intro b20 hb20
 refine OL.callE (α := (Option Addr × Nat) × World) (fun y => .tuple #[.slice y.1.1 1 y.1.2, .int .i64 0]) (fun y => IntsO y.2 (low y.2) [1] y.1.1 ∧ Ext w3 y.2) (fun y => Cls [] [y.2, w3, w2, w1, w]) rfl rfl (by exact Args.au) (fun w4 hw4 => ?_) ?_
 ·have hH4 : ∀ k, k < w3.heap.size → NotOwned [blk b20 25 [.slice (some ⟨b18, 0, none⟩) 1 1, .slice (some ⟨b7, 0, none⟩) 1 1], blk b18 50 [.int .i64 0, .string ⟨#[]⟩, .int .i64 0, .slice none 0 0]] k := fun k hk => NotOwned.blk (by omega) (NotOwned.blk (by omega) .nil)
  have hc7 : CellsAt w4 ⟨b7, 0, none⟩ (tyc tNil (none, 0)) := cells_stab (hw4.same (.head _) hH4 b7 (show b7 < w3.heap.size by omega)) (cells_stab (hx3.block b7 hb72 id) hc72)
  have hb7' : b7 < w4.heap.size := hw4.up (.head _) b7 (show b7 < w3.heap.size by omega)
  have hc := Redundant_calls qe ce de (some ⟨b20, 0, none⟩) 2 [([anyT], ((some ⟨b18, 0, none⟩, 1) : PY)), ([tNil], (some ⟨b7, 0, none⟩, 1))] w4 (by omega) (hdea.at hw4 (.head _) hH4) (by simp) (by simp) (arr_cells (R := patsR) (blk_at (hw4.item (.head _))) (hw4.lt _ (.head _) b20 rfl) (fun p hp => by
   simp only [List.mem_cons, List.not_mem_nil, or_false] at hp
   rcases hp with rfl | rfl
   ·exact row_ok (t := anyT) (blk_at (hw4.item (i := blk b18 50 [.int .i64 0, .string ⟨#[]⟩, .int .i64 0, .slice none 0 0]) (.tail _ (.head _)))) (hw4.lt _ (.tail _ (.head _)) b18 rfl) (any_ok w4 _)
   ·exact row_ok hc7 hb7' (flat_ok w4 _ (by simp [I64]) (by simp [I64]))))
  rw [hde, show List.map Prod.fst [([anyT], ((some ⟨b18, 0, none⟩, 1) : PY)), ([tNil], (some ⟨b7, 0, none⟩, 1))] = [[anyT], [tNil]] from rfl, fix2] at hc
  refine hc.mono ?_
  rintro e w5 ⟨q', c', h1, h2, h3⟩
  exact ⟨((q', c'), w5), h1, ⟨h2.mono (fun k hk => hk.2), (hw4.ext h3).toExt (.head _) hH4⟩, ((hw4.ext h3).thin (.blk (by simp only [AllLe, and_true]; omega) (.blk (by simp only [AllLe, and_true]; omega) Thin.same))).note⟩
 rintro ⟨⟨qr, cr⟩, w4⟩ ⟨hri, hx4⟩
 simp only at hri hx4 ⊢
 have hw4s := hx4.size
 apply omv; rfl; rfl
 apply oex; rfl; rfl; rfl
 apply oex; rfl; rfl; rfl
 apply oas; rfl; rfl
 apply oas; rfl; rfl
 apply OL.nsr
 apply omv; rfl; rfl
 apply obn; rfl; rfl; rfl; apply Bin.eql
 apply omv; rfl; rfl
 apply oy; rfl; rfl; rfl; apply Pev.move; rfl; exact yes
 rw [show decide ((0 : Int) = 0) = true from rfl]
 ((apply OL.ungate); (exact Guard.au); rfl)
 refine OL.makeSliceK (f := tyR.c) (x0 := (anyT, (none, 0))) (m := 2) rfl rfl rfl rfl rfl rfl rfl rfl (by omega) (fun b28 hb28 => ?_)
 apply oy; rfl; rfl; rfl; apply Pev.build; rfl; exact CellsL.agg; rfl; exact Fill.au; rfl
 ((apply OL.ungate); (exact Guard.au); rfl)
 apply OL.buildSlice; rfl; rfl; rfl; exact Elems.au; rfl; rfl; (intro bk hbk; simp only [AllLe, and_true] at hbk)
 simp only [AllLe, and_true] at hb28
 revert bk
 intro b30 hb30
 (((first | (with_reducible apply OL.op) | (with_reducible apply QL.op)); (exact Guard.au); rfl; rfl); (refine Pev.call (v := .bool true) rfl (by exact Args.au) (fun _ w5 hw5 => ?_)))
 ·have hH5 : ∀ k, k < w4.heap.size → NotOwned [blk b30 50 [.int .i64 3, .string nCons, .int .i64 0, .slice (some ⟨b28, 0, none⟩) 2 2], blk b28 50 (cat tyR.c (List.replicate 2 (anyT, ((none, 0) : PY))))] k := fun k hk => NotOwned.blk (by omega) (NotOwned.blk (by omega) .nil)
  have hty : TyO w5 (low w5) tCons (some ⟨b28, 0, none⟩, 2) := by
   have := TyO.of_parts (k := 3) (v := 0) (nm := nCons) (cap := 2) (by simp [I64]) (by simp [I64]) (by rw [List.length_replicate]; omega) (by rw [List.length_replicate]; exact Nat.le_refl _) (arr_cells (R := tyR) (blk_at (hw5.item (i := blk b28 50 (cat tyR.c (List.replicate 2 (anyT, ((none, 0) : PY))))) (.tail _ (.head _)))) (hw5.lt _ (.tail _ (.head _)) b28 rfl) (anyl_ok w5 _ 2))
   rw [anyl_map] at this
   exact this
  have hc := SamePats_of _ pm [(tCons, ((some ⟨b28, 0, none⟩, 2) : PY))] qm (some ⟨b30, 0, none⟩) cm 1 w5 (Nat.lt_succ_self _) (by omega) (by simp) (hpma.at hw5 (.tail _ (.tail _ (.head _))) (fun k hk => hH5 k (by omega))) (arr_cells (R := tyR) (blk_at (hw5.item (.head _))) (hw5.lt _ (.head _) b30 rfl) (fun p hp => by
   rw [List.mem_singleton] at hp
   rw [hp]
   exact hty))
  have ht : @decide (pm.map Prod.fst = List.map Prod.fst [(tCons, ((some ⟨b28, 0, none⟩, 2) : PY))]) (Classical.propDecidable _) = true := @decide_eq_true _ (Classical.propDecidable _) hpm
  rw [ht] at hc
  exact hc.mono (fun e w6 h => ⟨h.1, hw5.ext h.2⟩)
 apply oop; rfl; apply Pev.pick_and; rfl; exact yes; rfl; exact yes
 apply omv; rfl; rfl
 apply oy; rfl; rfl; rfl; apply Pev.move; rfl; exact yes
 apply oy; rfl; rfl; rfl; apply Pev.bin; rfl; exact yes; rfl; exact yes; intro hcond; apply Bin.eql
 apply oop; rfl; apply Pev.pick_and; rfl; exact yes; rfl; exact yes
 apply omv; rfl; rfl
 apply oy; rfl; rfl; rfl; apply Pev.move; rfl; exact yes
 rw [show (true && true && decide ((0 : Int) = 0)) = true from rfl, show decide ((0 : Int) = 0) = true from rfl, show (true && true) = true from rfl]
 ((apply OL.ungate); (exact Guard.au); rfl)
 apply OL.buildSlice; rfl; rfl; rfl; exact Elems.au; rfl; rfl; (intro bk hbk; simp only [AllLe, and_true] at hbk)
 revert bk
 intro b39 hb39
 (((first | (with_reducible apply OL.op) | (with_reducible apply QL.op)); (exact Guard.au); rfl; rfl); (refine Pev.call (v := .bool true) rfl (by exact Args.au) (fun _ w5 hw5 => ?_)))
 ·have hH5 : ∀ k, k < w4.heap.size → NotOwned [blk b39 3 [.int .i64 1], blk b30 50 [.int .i64 3, .string nCons, .int .i64 0, .slice (some ⟨b28, 0, none⟩) 2 2], blk b28 50 (cat tyR.c (List.replicate 2 (anyT, ((none, 0) : PY))))] k := fun k hk => NotOwned.blk (by omega) (NotOwned.blk (by omega) (NotOwned.blk (by omega) .nil))
  have hc := SameInts_calls qr (some ⟨b39, 0, none⟩) cr 1 [1] [1] w5 (by simp) (by simp) (hri.at hw5 (.head _) hH5) (fun _ => ⟨⟨b39, 0, none⟩, rfl, hw5.lt _ (.head _) b39 rfl, blk_at (hw5.item (.head _))⟩)
  exact hc.mono (fun e w6 h => ⟨by rw [h.1]; rfl, hw5.ext h.2⟩)
 apply oop; rfl; apply Pev.pick_and; rfl; exact yes; rfl; exact yes
 apply omv; rfl; rfl
 rw [show (true && true) = true from rfl]
 ((apply OL.ungate); (exact Guard.au); rfl)
 refine OL.callE (α := (Option Addr × Nat × List (Da × DY)) × World) (fun y => .slice y.1.1 y.1.2.2.length y.1.2.1) (fun y => y.1.2.2.map Prod.fst = listsD ∧ Arr datR y.2 (low y.2) y.1.2.2 y.1.1 ∧ Ext w4 y.2) (fun y => Cls [] [y.2, w4, w3, w2, w1, w]) rfl rfl (by exact Args.au) (fun w5 hw5 => ?_) ?_
 ·refine (lists_calls w5).mono ?_
  rintro e w6 ⟨q', c', ds, h1, h2, h3, h4⟩
  exact ⟨((q', c', ds), w6), h1, ⟨h2, h3.mono (fun k hk => hk.2), (hw5.ext h4).toExt (.head _) (fun k hk => NotOwned.blk (by omega) (NotOwned.blk (by omega) (NotOwned.blk (by omega) .nil)))⟩, ((hw5.ext h4).thin (.blk (by simp only [AllLe, and_true]; omega) (.blk (by simp only [AllLe, and_true]; omega) (.blk (by simp only [AllLe, and_true]; omega) Thin.same)))).note⟩
 rintro ⟨⟨qf, cf, df⟩, w5⟩ ⟨hdf, hdfa, hx5⟩
 simp only at hdf hdfa hx5 ⊢
 have hdfl : df.length = 1 := by
  have := congrArg List.length hdf
  rw [List.length_map] at this
  exact this
 have hw5s := hx5.size
 apply oy; rfl; rfl; rfl; apply Pev.build; rfl; exact CellsL.agg; rfl; exact Fill.au; rfl
 ((apply OL.ungate); (exact Guard.au); rfl)
 apply OL.buildSlice; rfl; rfl; rfl; exact Elems.au; rfl; rfl; (intro bk hbk; simp only [AllLe, and_true] at hbk)
 revert bk
 intro b45 hb45
 ((apply OL.ungate); (exact Guard.au); rfl)
 apply OL.buildSlice; rfl; rfl; rfl; exact Elems.au; rfl; rfl; (intro bk hbk; simp only [AllLe, and_true] at hbk)
 revert bk
 intro b46 hb46
 (((first | (with_reducible apply OL.op) | (with_reducible apply QL.op)); (exact Guard.au); rfl; rfl); (refine Pev.call (v := .int .i64 6) rfl (by exact Args.au) (fun _ w6 hw6 => ?_)))
 ·have hH6 : ∀ k, k < w5.heap.size → NotOwned [blk b46 25 [.slice (some ⟨b45, 0, none⟩) 1 1], blk b45 50 [.int .i64 3, .string nNope, .int .i64 0, .slice none 0 0]] k := fun k hk => NotOwned.blk (by omega) (NotOwned.blk (by omega) .nil)
  have hc := Check_calls qf cf df (some ⟨b46, 0, none⟩) 1 [([tNope], ((some ⟨b45, 0, none⟩, 1) : PY))] w6 (by omega) (hdfa.at hw6 (.head _) hH6) (by simp) (arr_cells (R := patsR) (blk_at (hw6.item (.head _))) (hw6.lt _ (.head _) b46 rfl) (fun p hp => by
   rw [List.mem_singleton] at hp
   rw [hp]
   exact row_ok (t := tNope) (blk_at (hw6.item (i := blk b45 50 [.int .i64 3, .string nNope, .int .i64 0, .slice none 0 0]) (.tail _ (.head _)))) (hw6.lt _ (.tail _ (.head _)) b45 rfl) (flat_ok w6 _ (by simp [I64]) (by simp [I64]))))
  rw [hdf, show List.map Prod.fst [([tNope], ((some ⟨b45, 0, none⟩, 1) : PY))] = [[tNope]] from rfl, fix3] at hc
  exact hc.mono (fun e w7 h => ⟨h.1, hw6.ext h.2⟩)
 apply oy; rfl; rfl; rfl; apply Pev.bin; rfl; exact yes; rfl; exact yes; intro hcond; apply Bin.eql
 apply oop; rfl; apply Pev.pick_and; rfl; exact yes; rfl; exact yes
 apply oas; rfl; rfl
 apply OL.nx
 apply W.ret
 ((with_reducible apply At.fin1); rfl; rfl; intro w' hw')
 exact ⟨rfl, hw'.toExt (s := w) (by simp) (fun k hk => NotOwned.blk (by omega) (NotOwned.blk (by omega) .nil))⟩
end Go.Proofs.Ytleggdmhihcafaa.pt

/- The law PatternsMissing. Conditions: none. -/
namespace Go.Pt
open Go.Eng
end Go.Pt
namespace Go.Proofs.Ytleggdmhihcafaa.pt
open Go.RowKit Go.Eng Go.Pt
set_option maxRecDepth 100000
end Go.Proofs.Ytleggdmhihcafaa.pt

/- The law PatternsRedundant. Conditions: none. -/
namespace Go.Proofs.Ytleggdmhihcafaa.pt
open Go.RowKit Go.Eng Go.Pt
set_option maxRecDepth 100000
end Go.Proofs.Ytleggdmhihcafaa.pt

/- The walk of the reference's Known. Conditions: none. -/
namespace Go.Proofs.Ytleggdmhihcafaa.pt
open Go.RowKit Go.Eng Go.Pt
set_option maxRecDepth 100000
theorem Known_of : ∀ (n : Nat) (ps : List (Ty × PY)) (q : Option Addr) (cap : Nat) (w : World), Ty.szs (ps.map Prod.fst) < n → ps.length ≤ 9223372036854775807 → Arr tyR w (low w) ps q →
  Calls Try.prog 15 [.slice q ps.length cap].toArray w fun e w' => e = .returned (.bool (knownL (ps.map Prod.fst))) ∧ Ext w w' := by
 intro n
 induction n with
 | zero => intro ps q cap w hn; omega
 | succ n ih =>
  intro ps q cap w hn hpl h
  refine enter Try.func15 rfl Try.ntmps15 rfl (Cls.start w) ?_
  obtain ⟨P, hP⟩ : ∃ P, ps.map Prod.fst = P := ⟨_, rfl⟩
  have hPl : P.length = ps.length := by rw [← hP, List.length_map]
  obtain ⟨RV, hRV⟩ : ∃ RV, knownL P = RV := ⟨_, rfl⟩
  rw [hP] at hn
  rw [hP, hRV]
  (simp only [argEnv, Nat.zero_add, Nat.reduceAdd])
  apply W.sr
  apply oas; rfl; rfl
  apply OL.nx
  apply W.seq
  apply W.sr
  apply omv; rfl; rfl
  apply oop; rfl; apply Pev.len_slice; rfl; exact yes; rfl
  apply omv; rfl; rfl
  apply OL.nx
  apply W.block
  refine W.loop (G := Nat) (fun i => i ≤ ps.length ∧ knownL (P.drop i) = RV) (fun i => ps.length - i)
   (fun i => [(5, true, .slice q ps.length cap), (6, true, .int .i64 (ps.length : Int)), (7, true, .int .i64 (i : Int))])
   (fun i => Cls [] [w]) 0 ⟨Nat.zero_le _, hRV⟩ (by exact Sub.au) (fun w' hw' => hw') ?_
  rintro i ⟨hi, hi0⟩
  simp only at hi hi0 ⊢
  apply W.sr
  apply obn; rfl; rfl; rfl; apply Bin.lss
  apply OL.nx
  apply W.seq
  (refine W.cnd (fun hlt => ?_) (fun hlt => ?_)) <;> (try (exfalso; first | omega | exact hlt trivial | contradiction))
  ·obtain ⟨a, u, rfl, hab, hu, hcell, hok⟩ := h.get (show i < ps.length by omega)
   have hab : a.block < w.heap.size := hab
   have hcell : CellsAt w (a.add (i * 4)) [.int .i64 u.1.kind, .string u.1.name, .int .i64 u.1.var, .slice u.2.1 u.1.args.length u.2.2] := hcell
   have hPu : P[i]? = some u.1 := by rw [← hP, List.getElem?_map, hu]; rfl
   obtain ⟨pz, hpz, hpza, hpzl, _⟩ := pat_kids hok
   have hpzl2 : pz.length = u.1.args.length := by rw [← hpz, List.length_map]
   have hsz : Ty.szs (pz.map Prod.fst) < n := by
    have h1 := Ty.sz_get hPu
    have h2 := sz_args u.1
    rw [hpz]
    omega
   have hdr : P.drop i = u.1 :: P.drop (i + 1) := by
    have hl : i < P.length := by omega
    rw [List.drop_eq_getElem_cons hl]
    rw [List.getElem?_eq_getElem hl] at hPu
    rw [Option.some.inj hPu]
   rw [hdr, knownL, knownE_eq] at hi0
   have hcall : ∀ w2, Arr tyR w2 (low w2) pz u.2.1 → Calls Try.prog 15 [.slice u.2.1 u.1.args.length u.2.2].toArray w2 fun e w' => e = .returned (.bool (knownL u.1.args)) ∧ Ext w2 w' := fun w2 h2 => by
    have hc := ih pz u.2.1 u.2.2 w2 hsz (by omega) h2
    rw [hpzl2, hpz] at hc
    exact hc
   obtain ⟨kd, hkd⟩ : ∃ kd, u.1.kind = kd := ⟨_, rfl⟩
   obtain ⟨nm, hnm⟩ : ∃ nm, u.1.name = nm := ⟨_, rfl⟩
   obtain ⟨vr, hvr⟩ : ∃ vr, u.1.var = vr := ⟨_, rfl⟩
   obtain ⟨ar, har⟩ : ∃ ar, u.1.args = ar := ⟨_, rfl⟩
   rw [hkd, har] at hi0
   rw [hkd, hnm, hvr, har] at hcell
   rw [har] at hcall hpzl2
   by_cases hk2 : kd = 2
   ·subst hk2
    have hi0 : (knownL ar && knownL (P.drop (i + 1))) = RV := hi0
    apply W.sk
    apply W.sb
    apply W.sr
    apply oop; rfl; apply Pev.idx; rfl; exact yes; rfl; exact yes; rfl; rfl; intro hcond; omega
    apply oop; rfl; apply Pev.load_keptA; rfl; exact yes; exact .head _; rfl; intro hcond; assumption; rfl; intro hcond; (rw [add_block]; assumption); intro hcond; exact NotOwned.au
    apply OL.alloc; rfl; rfl; exact CellsL.agg; (intro bk hbk; simp only [AllLe, and_true] at hbk)
    apply OL.storeB; rfl; rfl; exact CellsL.agg; rfl; rfl; rfl; exact Swap.au; exact Put.au
    apply OL.nsr
    apply ofa; rfl; rfl; rfl
    apply old; rfl; rfl; exact .head _; rfl; rfl
    apply obn; rfl; rfl; rfl; apply Bin.neq
    apply omv; rfl; rfl
    apply oy; rfl; rfl; rfl; apply Pev.fld; rfl; exact yes; rfl
    apply oy; rfl; rfl; rfl; apply Pev.load_blk; rfl; exact fun h => h; exact .head _; rfl; rfl
    apply oy; rfl; rfl; rfl; apply Pev.bin; rfl; exact fun h => h; rfl; exact yes; intro hcond; apply Bin.neq
    apply oop; rfl; apply Pev.pick_and; rfl; exact yes; rfl; exact fun h => h
    apply omv; rfl; rfl
    apply ono; rfl; rfl; rfl; apply Pev.fld; rfl; exact yes; rfl
    apply ono; rfl; rfl; rfl; apply Pev.load_blk; rfl; exact yes; exact .head _; rfl; rfl
    (((first | (with_reducible apply OL.op) | (with_reducible apply QL.op)); (exact Guard.au); rfl; rfl); (refine Pev.call (v := .bool (knownL ar)) rfl (by exact Args.au) (fun _ w2 hw2 => ?_)))
    ·exact (hcall w2 (hpza.at hw2 (.head _) (fun k hk => NotOwned.blk (by omega) .nil))).mono (fun e w3 h => ⟨h.1, hw2.ext h.2⟩)
    apply ono; rfl; rfl; rfl; apply Pev.not; rfl; exact yes
    apply oop; rfl; apply Pev.pick_or; rfl; exact yes; rfl; exact yes
    apply OL.nx
    refine W.cond rfl (fun hb => ?_) (fun hb => ?_)
    ·have hkf : knownL ar = false := by simpa using hb
     rw [hkf] at hi0
     have hi0 : false = RV := hi0
     rw [← hi0]
     apply W.sr
     apply oas; rfl; rfl
     apply OL.nx
     refine W.rt ?_
     ((with_reducible apply At.fin1); rfl; rfl; intro w' hw')
     exact ⟨rfl, by (exact hw'.fr)⟩
    ·have hkt : knownL ar = true := by simpa using hb
     rw [hkt] at hi0
     apply W.skip
     with_reducible apply At.in_normal
     with_reducible apply At.next
     apply W.reg
     apply obn; rfl; rfl; rfl; apply Bin.add_in; omega
     apply omv; rfl; rfl
     apply OL.nil
     exact At.again (i + 1) ⟨by omega, hi0⟩ (by omega) (by exact Sub.au) (fun w' hw' => hw'.thin (by exact Thin.au))
   by_cases hk3 : kd = 3
   ·subst hk3
    have hi0 : (knownL ar && knownL (P.drop (i + 1))) = RV := hi0
    apply W.sk
    apply W.sb
    apply W.sr
    apply oop; rfl; apply Pev.idx; rfl; exact yes; rfl; exact yes; rfl; rfl; intro hcond; omega
    apply oop; rfl; apply Pev.load_keptA; rfl; exact yes; exact .head _; rfl; intro hcond; assumption; rfl; intro hcond; (rw [add_block]; assumption); intro hcond; exact NotOwned.au
    apply OL.alloc; rfl; rfl; exact CellsL.agg; (intro bk hbk; simp only [AllLe, and_true] at hbk)
    apply OL.storeB; rfl; rfl; exact CellsL.agg; rfl; rfl; rfl; exact Swap.au; exact Put.au
    apply OL.nsr
    apply ofa; rfl; rfl; rfl
    apply old; rfl; rfl; exact .head _; rfl; rfl
    apply obn; rfl; rfl; rfl; apply Bin.neq
    apply omv; rfl; rfl
    apply oy; rfl; rfl; rfl; apply Pev.fld; rfl; exact yes; rfl
    apply oy; rfl; rfl; rfl; apply Pev.load_blk; rfl; exact yes; exact .head _; rfl; rfl
    apply oy; rfl; rfl; rfl; apply Pev.bin; rfl; exact yes; rfl; exact yes; intro hcond; apply Bin.neq
    apply oop; rfl; apply Pev.pick_and; rfl; exact yes; rfl; exact yes
    apply omv; rfl; rfl
    apply ono; rfl; rfl; rfl; apply Pev.fld; rfl; exact yes; rfl
    apply ono; rfl; rfl; rfl; apply Pev.load_blk; rfl; exact yes; exact .head _; rfl; rfl
    (((first | (with_reducible apply OL.op) | (with_reducible apply QL.op)); (exact Guard.au); rfl; rfl); (refine Pev.call (v := .bool (knownL ar)) rfl (by exact Args.au) (fun _ w2 hw2 => ?_)))
    ·exact (hcall w2 (hpza.at hw2 (.head _) (fun k hk => NotOwned.blk (by omega) .nil))).mono (fun e w3 h => ⟨h.1, hw2.ext h.2⟩)
    apply ono; rfl; rfl; rfl; apply Pev.not; rfl; exact yes
    apply oop; rfl; apply Pev.pick_or; rfl; exact yes; rfl; exact yes
    apply OL.nx
    refine W.cond rfl (fun hb => ?_) (fun hb => ?_)
    ·have hkf : knownL ar = false := by simpa using hb
     rw [hkf] at hi0
     have hi0 : false = RV := hi0
     rw [← hi0]
     apply W.sr
     apply oas; rfl; rfl
     apply OL.nx
     refine W.rt ?_
     ((with_reducible apply At.fin1); rfl; rfl; intro w' hw')
     exact ⟨rfl, by (exact hw'.fr)⟩
    ·have hkt : knownL ar = true := by simpa using hb
     rw [hkt] at hi0
     apply W.skip
     with_reducible apply At.in_normal
     with_reducible apply At.next
     apply W.reg
     apply obn; rfl; rfl; rfl; apply Bin.add_in; omega
     apply omv; rfl; rfl
     apply OL.nil
     exact At.again (i + 1) ⟨by omega, hi0⟩ (by omega) (by exact Sub.au) (fun w' hw' => hw'.thin (by exact Thin.au))
   have h2f : decide (kd = 2) = false := decide_eq_false hk2
   have h3f : decide (kd = 3) = false := decide_eq_false hk3
   rw [h2f, h3f] at hi0
   have hi0 : false = RV := hi0
   rw [← hi0]
   apply W.sk
   apply W.sb
   apply W.sr
   apply oop; rfl; apply Pev.idx; rfl; exact yes; rfl; exact yes; rfl; rfl; intro hcond; omega
   apply oop; rfl; apply Pev.load_keptA; rfl; exact yes; exact .head _; rfl; intro hcond; assumption; rfl; intro hcond; (rw [add_block]; assumption); intro hcond; exact NotOwned.au
   apply OL.alloc; rfl; rfl; exact CellsL.agg; (intro bk hbk; simp only [AllLe, and_true] at hbk)
   apply OL.storeB; rfl; rfl; exact CellsL.agg; rfl; rfl; rfl; exact Swap.au; exact Put.au
   apply OL.nsr
   apply ofa; rfl; rfl; rfl
   apply old; rfl; rfl; exact .head _; rfl; rfl
   apply obn; rfl; rfl; rfl; apply Bin.neq
   apply omv; rfl; rfl
   apply oy; rfl; rfl; rfl; apply Pev.fld; rfl; exact yes; rfl
   apply oy; rfl; rfl; rfl; apply Pev.load_blk; rfl; exact fun h => h; exact .head _; rfl; rfl
   apply oy; rfl; rfl; rfl; apply Pev.bin; rfl; exact fun h => h; rfl; exact yes; intro hcond; apply Bin.neq
   apply oop; rfl; apply Pev.pick_and; rfl; exact yes; rfl; exact fun h => h
   apply omv; rfl; rfl
   apply ono; rfl; rfl; rfl; apply Pev.fld; rfl; exact yes; rfl
   apply ono; rfl; rfl; rfl; apply Pev.load_blk; rfl; exact fun h => h; exact .head _; rfl; rfl
   apply OL.gateOff; exact Guard.no rfl rfl; (simp; omega); rfl
   apply OL.gateOff; exact Guard.no rfl rfl; (simp; omega); rfl
   apply oop; rfl; apply Pev.pick_on; rfl; exact yes; (intro hcond; simp; omega); rfl; exact yes
   apply OL.nx
   refine W.cond rfl (fun _ => ?_) (fun hb => ?_)
   ·apply W.sr
    apply oas; rfl; rfl
    apply OL.nx
    refine W.rt ?_
    ((with_reducible apply At.fin1); rfl; rfl; intro w' hw')
    exact ⟨rfl, by (exact hw'.fr)⟩
   ·exfalso
    simp [hk2, hk3] at hb
  ·obtain rfl : i = ps.length := by omega
   rw [List.drop_eq_nil_of_le (by omega)] at hi0
   have hi0 : true = RV := hi0
   rw [← hi0]
   refine W.xt ?_
   with_reducible apply At.next
   apply W.sr
   apply oas; rfl; rfl
   apply OL.nx
   apply W.ret
   ((with_reducible apply At.fin1); rfl; rfl; intro w' hw')
   exact ⟨rfl, by (exact hw'.fr)⟩
end Go.Proofs.Ytleggdmhihcafaa.pt

/- The law MatchFirst. Conditions: none. -/
namespace Go.Proofs.Ytleggdmhihcafaa.pt
open Go.RowKit Go.Eng Go.Pt
set_option maxRecDepth 100000
theorem MatchFirst_calls (qd : Option Addr) (cd : Nat) (ds : List (Da × DY)) (q : Option Addr) (cap : Nat) (rs : List (List Ty × PY)) (qv : Option Addr) (cv : Nat) (vs : List (Ty × PY)) (w : World) (hdl : ds.length ≤ 9223372036854775807) (hd : Arr datR w (low w) ds qd) (hlen : rs.length ≤ 9223372036854775807) (h : Arr patsR w (low w) rs q) (hvl : vs.length ≤ 9223372036854775807) (hvc : vs.length ≤ cv) (hva : Arr tyR w (low w) vs qv) :
  Calls Try.prog 5 [.slice qd ds.length cd, .slice q rs.length cap, .slice qv vs.length cv].toArray w fun e w' => e = .returned (.bool true) ∧ Ext w w' := by
 refine enter Try.func5 rfl Try.ntmps5 rfl (Cls.start w) ?_
 obtain ⟨D, hD⟩ : ∃ D, ds.map Prod.fst = D := ⟨_, rfl⟩
 obtain ⟨R, hR⟩ : ∃ R, rs.map Prod.fst = R := ⟨_, rfl⟩
 obtain ⟨V, hV⟩ : ∃ V, vs.map Prod.fst = V := ⟨_, rfl⟩
 have hRl : R.length = rs.length := by rw [← hR, List.length_map]
 have hVl : V.length = vs.length := by rw [← hV, List.length_map]
 (simp only [argEnv, Nat.zero_add, Nat.reduceAdd])
 apply W.sr
 apply oas; rfl; rfl
 apply OL.nx
 apply W.seq
 apply W.sr
 (((first | (with_reducible apply OL.op) | (with_reducible apply QL.op)); (exact Guard.au); rfl; rfl); (refine Pev.call (v := .bool true) rfl (by exact Args.au) (fun _ w2 hw2 => (patternsWork_calls w2).mono fun e w3 h => ⟨h.1, hw2.ext h.2⟩)))
 apply oop; rfl; apply Pev.not; rfl; exact yes
 apply OL.nx
 refine W.cond rfl (fun hb => by simp at hb) (fun _ => ?_)
 apply W.sk
 apply W.sr
 apply omv; rfl; rfl
 apply omv; rfl; rfl
 obtain ⟨EC, hEC⟩ : ∃ EC : Int, (if checkE D R ≠ 0 then checkE D R else if (compB D R).1.full = true then 2 else 0) = EC := ⟨_, rfl⟩
 refine OL.callE (α := (Option Addr × Nat × List NdE) × World) (fun y => .tuple #[.slice y.1.1 y.1.2.2.length y.1.2.1, .int .i64 EC]) (fun y => Ext w y.2 ∧ (EC ≠ 0 → y.1.2.2 = []) ∧ (EC = 0 → y.1.2.2.map Prod.fst = compT D R ∧ y.1.2.2.length ≤ 4096 ∧ SlAt y.2 y.2.heap.size y.1.1 (cat ndC y.1.2.2) ∧ ∀ x ∈ y.1.2.2, NdAt y.2 x)) (fun y => Cls [] [y.2, w]) rfl rfl (by exact Args.au) (fun w2 hw2 => ?_) ?_
 ·have hc := Compile_calls qd cd ds q cap rs w2 hdl (hd.at hw2 (.head _) (fun k hk => .nil)) (by omega) (h.at hw2 (.head _) (fun k hk => .nil))
  rw [hD, hR] at hc
  refine hc.mono ?_
  rintro e w3 ⟨hx, hif⟩
  have hx3 : Ext w w3 := (hw2.ext hx).toExt (.head _) (fun k hk => .nil)
  by_cases h1 : checkE D R ≠ 0
  ·rw [if_pos h1] at hif hEC
   rw [hEC] at hif h1
   exact ⟨((none, 0, []), w3), hif, ⟨hx3, fun _ => rfl, fun e => absurd e h1⟩, (hw2.ext hx).note⟩
  rw [if_neg h1] at hif hEC
  by_cases h2 : (compB D R).1.full = true
  ·rw [if_pos h2] at hif hEC
   subst hEC
   exact ⟨((none, 0, []), w3), hif, ⟨hx3, fun _ => rfl, fun e => absurd e (by decide)⟩, (hw2.ext hx).note⟩
  rw [if_neg h2] at hif hEC
  subst hEC
  obtain ⟨q', c', ts, k1, k2, k3, k4, k5⟩ := hif
  exact ⟨((q', c', ts), w3), k1, ⟨hx3, fun e => absurd rfl e, fun _ => ⟨k2, k3, k4, k5⟩⟩, (hw2.ext hx).note⟩
 rintro ⟨⟨qt, ct, ts⟩, w1⟩ ⟨hx1, hbad, hok⟩
 simp only at hx1 hbad hok ⊢
 have hw1s := hx1.size
 apply omv; rfl; rfl
 apply oex; rfl; rfl; rfl
 apply oex; rfl; rfl; rfl
 apply oas; rfl; rfl
 apply oas; rfl; rfl
 apply OL.nx
 apply W.seq
 apply W.sr
 apply omv; rfl; rfl
 apply omv; rfl; rfl
 (((first | (with_reducible apply OL.op) | (with_reducible apply QL.op)); (exact Guard.au); rfl; rfl); (refine Pev.call (v := .int .i64 (checkE D R)) rfl (by exact Args.au) (fun _ w2 hw2 => ?_)))
 ·have hc := Check_calls qd cd ds q cap rs w2 hdl (hd.at hw2 (.tail _ (.head _)) (fun k hk => .nil)) (by omega) (h.at hw2 (.tail _ (.head _)) (fun k hk => .nil))
  rw [hD, hR] at hc
  exact hc.mono fun e w3 h => ⟨h.1, hw2.ext h.2⟩
 apply oas; rfl; rfl
 apply OL.nsr
 apply omv; rfl; rfl
 apply obn; rfl; rfl; rfl; apply Bin.neq
 apply OL.nx
 by_cases h0 : checkE D R ≠ 0
 ·rw [if_pos h0] at hEC
  rw [← hEC] at hbad ⊢
  obtain rfl := hbad h0
  refine W.cond rfl (fun _ => ?_) (fun hb => by simp at hb; omega)
  apply W.sr
  apply omv; rfl; rfl
  apply omv; rfl; rfl
  apply obn; rfl; rfl; rfl; apply Bin.eql
  apply omv; rfl; rfl
  apply oy; rfl; rfl; rfl; apply Pev.move; rfl; exact yes
  apply oy; rfl; rfl; rfl; apply Pev.len_slice; rfl; exact fun h => h; rfl
  apply oy; rfl; rfl; rfl; apply Pev.bin; rfl; exact fun h => h; rfl; exact yes; intro hcond; apply Bin.eql
  apply oop; rfl; apply Pev.pick_and; rfl; exact yes; rfl; exact fun h => h
  apply oas; rfl; rfl
  apply OL.nx
  refine W.rt ?_
  ((with_reducible apply At.fin1); rfl; rfl; intro w' hw')
  exact ⟨by simp, hw'.toExt (s := w) (by simp) (fun k hk => .nil)⟩
 rw [if_neg h0] at hEC
 have h0 : checkE D R = 0 := Decidable.not_not.1 h0
 refine W.cond rfl (fun hb => by simp at hb; omega) (fun _ => ?_)
 apply W.sk
 apply W.seq
 apply W.sr
 apply omv; rfl; rfl
 apply obn; rfl; rfl; rfl; apply Bin.eql
 apply OL.nx
 by_cases hf : (compB D R).1.full = true
 ·rw [if_pos hf] at hEC
  subst hEC
  obtain rfl := hbad (by decide)
  refine W.cond rfl (fun _ => ?_) (fun hb => by cases hb)
  apply W.sr
  apply omv; rfl; rfl
  apply oop; rfl; apply Pev.len_slice; rfl; exact yes; rfl
  apply obn; rfl; rfl; rfl; apply Bin.eql
  apply oas; rfl; rfl
  apply OL.nx
  refine W.rt ?_
  ((with_reducible apply At.fin1); rfl; rfl; intro w' hw')
  exact ⟨by simp, hw'.toExt (s := w) (by simp) (fun k hk => .nil)⟩
 rw [if_neg hf] at hEC
 subst hEC
 obtain ⟨hts, htl, hsl, hnd⟩ := hok rfl
 have hval : ValidT D (ts.map Prod.fst) := by rw [hts]; exact comp_valid h0 (by rw [← hts, List.length_map]; exact htl)
 have hN := check_nodup h0
 refine W.cond rfl (fun hb => by cases hb) (fun _ => ?_)
 apply W.sk
 apply W.seq
 apply W.sr
 apply omv; rfl; rfl
 apply obn; rfl; rfl; rfl; apply Bin.neq
 apply omv; rfl; rfl
 apply ono; rfl; rfl; rfl; apply Pev.move; rfl; exact yes
 apply ono; rfl; rfl; rfl; apply Pev.move; rfl; exact yes
 (((first | (with_reducible apply OL.op) | (with_reducible apply QL.op)); (exact Guard.au); rfl; rfl); (refine Pev.call (v := .int .i64 0) rfl (by exact Args.au) (fun _ w2 hw2 => ?_)))
 ·have hx2 := hw2.toExt (s := w1) (.head _) (fun k hk => .nil)
  exact (mCheck_calls qd cd ds qt ct ts w2 hdl (hd.at hw2 (.tail _ (.head _)) (fun k hk => .nil)) (by rw [hD]; exact hN) (SlAt.extS hsl hx2) (fun x hx => (hnd x hx).ext hx2) (by rw [hD]; exact hval)).mono fun e w3 h => ⟨h.1, hw2.ext h.2⟩
 apply ono; rfl; rfl; rfl; apply Pev.bin; rfl; exact yes; rfl; exact yes; intro hcond; apply Bin.neq
 apply oop; rfl; apply Pev.pick_or; rfl; exact yes; rfl; exact yes
 apply OL.nx
 refine W.cond rfl (fun hb => by cases hb) (fun _ => ?_)
 apply W.sk
 apply W.seq
 apply W.sr
 apply omv; rfl; rfl
 obtain ⟨KV, hKV⟩ : ∃ KV, knownL V = KV := ⟨_, rfl⟩
 (((first | (with_reducible apply OL.op) | (with_reducible apply QL.op)); (exact Guard.au); rfl; rfl); (refine Pev.call (v := .bool KV) rfl (by exact Args.au) (fun _ w2 hw2 => ?_)))
 ·have hc := Known_of _ vs qv cv w2 (Nat.lt_succ_self _) hvl (hva.at hw2 (.tail _ (.head _)) (fun k hk => .nil))
  rw [hV, hKV] at hc
  exact hc.mono fun e w3 h => ⟨h.1, hw2.ext h.2⟩
 cases KV with
 | false =>
  apply oop; rfl; apply Pev.not; rfl; exact yes
  apply omv; rfl; rfl
  apply ono; rfl; rfl; rfl; apply Pev.move; rfl; exact yes
  apply OL.gateOff; exact Guard.no rfl rfl; rfl; rfl
  apply ono; rfl; rfl; rfl; apply Pev.move; rfl; exact yes
  apply OL.gateOff; exact Guard.no rfl rfl; rfl; rfl
  apply ono; rfl; rfl; rfl; apply Pev.move; rfl; exact yes
  apply OL.gateOff; exact Guard.no rfl rfl; rfl; rfl
  apply OL.gateOff; exact Guard.no rfl rfl; rfl; rfl
  apply OL.gateOff; exact Guard.no rfl rfl; rfl; rfl
  apply OL.gateOff; exact Guard.no rfl rfl; rfl; rfl
  apply oop; rfl; apply Pev.pick_on; rfl; exact yes; (intro hcond; rfl); rfl; exact yes
  apply OL.nx
  refine W.cond rfl (fun _ => ?_) (fun hb => by cases hb)
  apply W.sr
  apply oas; rfl; rfl
  apply OL.nx
  refine W.rt ?_
  ((with_reducible apply At.fin1); rfl; rfl; intro w' hw')
  exact ⟨rfl, hw'.toExt (s := w) (by simp) (fun k hk => .nil)⟩
 | true =>
  have hR64 := (checkE_ok h0).2.1
  apply oop; rfl; apply Pev.not; rfl; exact yes
  apply omv; rfl; rfl
  apply ono; rfl; rfl; rfl; apply Pev.move; rfl; exact yes
  refine OL.ungate (Guard.no rfl rfl) rfl ?_
  apply OL.buildSlice; rfl; rfl; rfl; exact Elems.au; rfl; rfl; (intro bk hbk; simp only [AllLe, and_true] at hbk)
  apply ono; rfl; rfl; rfl; apply Pev.move; rfl; exact yes
  refine OL.ungate (Guard.no rfl rfl) rfl ?_
  refine OL.appendB (news := cat patsR.c rs) (cs := []) (m := 0) (base := w1.heap.size) rfl rfl rfl rfl (by exact Hole.au) (by omega) rfl (fun w2 hw2 => (h.at hw2 (.tail _ (.head _)) (fun k hk => NotOwned.row (Nat.lt_of_lt_of_le hk hw1s) .nil)).slAt) (cat_length patsR.clen rs) (cat_oneL (fun x => rfl) rs) ⟨w1, .head _, Nat.le_refl _⟩ (by omega) (fun O5 q5 c5 => ?_)
  rw [List.nil_append, Nat.zero_add]
  apply ono; rfl; rfl; rfl; apply Pev.move; rfl; exact yes
  refine OL.ungate (Guard.no rfl rfl) rfl ?_
  apply OL.buildSlice; rfl; rfl; rfl; exact Elems.au; rfl; rfl; (intro bk hbk; simp only [AllLe, and_true] at hbk)
  refine OL.ungate (Guard.no rfl rfl) rfl ?_
  apply OL.append; rfl; rfl; rfl; rfl; exact Hole.au; exact .head _; exact Take.au; rfl; rfl; exact ⟨_, .head _, Nat.le_refl _⟩; omega; intro O1 g1 cap1
  have hno : ∀ k, k < w.heap.size → NotOwned [blk bk 25 [.slice qv vs.length cv], row w1.heap.size O1 (some ⟨g1, 0, none⟩) (rs.length + 1) cap1 25 1 (cat patsR.c rs ++ [.slice qv vs.length cv])] k := fun k hk => NotOwned.blk (by omega) (NotOwned.row (Nat.lt_of_lt_of_le hk hw1s) .nil)
  have hno1 : ∀ k, k < w1.heap.size → NotOwned [blk bk 25 [.slice qv vs.length cv], row w1.heap.size O1 (some ⟨g1, 0, none⟩) (rs.length + 1) cap1 25 1 (cat patsR.c rs ++ [.slice qv vs.length cv])] k := fun k hk => NotOwned.blk (by omega) (NotOwned.row hk .nil)
  (((first | (with_reducible apply OL.op) | (with_reducible apply QL.op)); (exact Guard.au); rfl; rfl); (refine Pev.call (v := .int .i64 (checkE D (R ++ [V]))) rfl (by exact Args.au) (fun _ w2 hw2 => ?_)))
  ·have hvp0 : True := trivial
   have hvp : patsR.ok w2 (low w2) V (qv, cv) := ⟨⟨vs, hV, hva.at hw2 (.tail _ (.head _)) hno⟩, by rw [hVl]; exact hvc, by rw [hVl]; exact hvl⟩
   have h2 := h.at hw2 (.tail _ (.head _)) hno
   have hcat : cat patsR.c (rs ++ [(V, ((qv, cv) : PY))]) = cat patsR.c rs ++ [.slice qv vs.length cv] := by
    rw [cat_append]
    simp [cat, patsR, Rel.c, hVl]
   have hrow := hw2.item (i := row w1.heap.size O1 (some ⟨g1, 0, none⟩) (rs.length + 1) cap1 25 1 (cat patsR.c rs ++ [.slice qv vs.length cv])) (.tail _ (.head _))
   have hsl2 : SlAt w2 w2.heap.size (some ⟨g1, 0, none⟩) (cat patsR.c (rs ++ [(V, ((qv, cv) : PY))])) := by
    rw [hcat]
    exact SlAt.of_row hrow
   have harr : Arr patsR w2 (low w2) (rs ++ [(V, ((qv, cv) : PY))]) (some ⟨g1, 0, none⟩) := Arr.of_sl hsl2 (fun p hp => by
    rcases List.mem_append.1 hp with hp | hp
    ·exact h2.el p hp
    ·obtain rfl := List.mem_singleton.1 hp
     exact hvp)
   have hc := Check_calls qd cd ds (some ⟨g1, 0, none⟩) cap1 (rs ++ [(V, ((qv, cv) : PY))]) w2 hdl (hd.at hw2 (.tail _ (.head _)) hno) (by rw [List.length_append, List.length_singleton]; omega) harr
   rw [hD, List.map_append, hR, List.length_append] at hc
   exact hc.mono fun e w3 h => ⟨h.1, hw2.ext h.2⟩
  apply ono; rfl; rfl; rfl; apply Pev.bin; rfl; exact yes; rfl; exact yes; intro hcond; apply Bin.neq
  apply oop; rfl; apply Pev.pick_or; rfl; exact yes; rfl; exact yes
  apply OL.nx
  by_cases h2 : checkE D (R ++ [V]) = 0
  ·rw [h2]
   refine W.cond rfl (fun hb => by cases hb) (fun _ => ?_)
   obtain ⟨WH, hWH⟩ : ∃ WH, which R V 0 = WH := ⟨_, rfl⟩
   obtain ⟨RV, hRV⟩ : ∃ RV, runE (compT D R) V (compT D R).length ((compT D R).length - 1) = RV := ⟨_, rfl⟩
   have hRun : WH ≠ -2 → RV = (WH, 0) := fun hw => by
    rw [← hWH] at hw ⊢
    rw [← hRV]
    exact comp_run h0 h2 hKV (by simpa using hf) hw
   have hle : ∀ r ∈ rs, r.1.length ≤ vs.length := fun r hr => by
    obtain ⟨_, _, _, cols, _, _, hM⟩ := checkE_ok h2
    have e1 := hM.len r.1 (List.mem_append_left _ (by rw [← hR]; exact List.mem_map_of_mem hr))
    have e2 := hM.len V (List.mem_append_right _ (.head _))
    omega
   apply W.sk
   apply W.sr
   apply omv; rfl; rfl
   apply omv; rfl; rfl
   apply omv; rfl; rfl
   (((first | (with_reducible apply OL.op) | (with_reducible apply QL.op)); (exact Guard.au); rfl; rfl); (refine Pev.call (v := .tuple #[.int .i64 RV.1, .int .i64 RV.2]) rfl (by exact Args.au) (fun _ w2 hw2 => ?_)))
   ·have hx2 := hw2.toExt (s := w1) (.head _) hno1
    have hc := mRun_calls qd cd ds qt qv ct cv ts vs w2 hdl (hd.at hw2 (.tail _ (.head _)) hno) (by rw [hD]; exact hN) (SlAt.extS hsl hx2) (fun x hx => (hnd x hx).ext hx2) (by rw [hD]; exact hval) hvl (hva.at hw2 (.tail _ (.head _)) hno)
    have htl2 : ts.length = (compT D R).length := by rw [← hts, List.length_map]
    rw [hts, hV, htl2, hRV] at hc
    rw [htl2]
    exact hc.mono fun e w3 h => ⟨h.1, hw2.ext h.2⟩
   apply omv; rfl; rfl
   apply oex; rfl; rfl; rfl
   apply oex; rfl; rfl; rfl
   apply oas; rfl; rfl
   apply oas; rfl; rfl
   apply OL.nsr
   apply omv; rfl; rfl
   apply omv; rfl; rfl
   (((first | (with_reducible apply OL.op) | (with_reducible apply QL.op)); (exact Guard.au); rfl; rfl); (refine Pev.call (v := .int .i64 WH) rfl (by exact Args.au) (fun _ w2 hw2 => ?_)))
   ·have hc := Which_calls q qv cap cv rs vs w2 hlen hvl (h.at hw2 (.tail _ (.head _)) hno) (hva.at hw2 (.tail _ (.head _)) hno) hle
    rw [hR, hV, hWH] at hc
    exact hc.mono fun e w3 h => ⟨h.1, hw2.ext h.2⟩
   apply oas; rfl; rfl
   apply OL.nsr
   apply omv; rfl; rfl
   apply obn; rfl; rfl; rfl; apply Bin.eql
   apply omv; rfl; rfl
   apply ono; rfl; rfl; rfl; apply Pev.move; rfl; exact yes
   apply ono; rfl; rfl; rfl; apply Pev.bin; rfl; exact fun h => h; rfl; exact yes; intro hcond; apply Bin.eql
   apply ono; rfl; rfl; rfl; apply Pev.move; rfl; exact fun h => h
   apply OL.op; exact Guard.cyes rfl rfl; rfl; rfl; apply Pev.move; rfl; exact yes
   apply OL.op; exact Guard.cyes rfl rfl; rfl; rfl; apply Pev.move; rfl; exact yes
   apply OL.op; exact Guard.cyes rfl rfl; rfl; rfl; apply Pev.bin; rfl; exact fun h => h; rfl; exact fun h => h; intro hcond; apply Bin.eql
   apply ono; rfl; rfl; rfl; apply Pev.pick_and; rfl; exact fun h => h; rfl; exact fun h => h
   apply oop; rfl; apply Pev.pick_or; rfl; exact yes; rfl; exact fun h => h
   apply oas; rfl; rfl
   apply OL.nx
   apply W.ret
   by_cases hw : WH = -2
   ·subst hw
    skip
    ((with_reducible apply At.fin1); rfl; rfl; intro w' hw')
    exact ⟨rfl, hw'.toExt (s := w) (by simp) hno⟩
   ·have hre := hRun hw
    subst hre
    skip
    ((with_reducible apply At.fin1); rfl; rfl; intro w' hw')
    exact ⟨by simp, hw'.toExt (s := w) (by simp) hno⟩
  ·refine W.cond rfl (fun _ => ?_) (fun hb => by simp at hb; exact absurd hb h2)
   apply W.sr
   apply oas; rfl; rfl
   apply OL.nx
   refine W.rt ?_
   ((with_reducible apply At.fin1); rfl; rfl; intro w' hw')
   exact ⟨rfl, hw'.toExt (s := w) (by simp) (fun k hk => NotOwned.blk (by omega) (NotOwned.row (Nat.lt_of_lt_of_le hk hw1s) .nil))⟩
end Go.Proofs.Ytleggdmhihcafaa.pt

/- Readings with the reach: what a slice's and a struct's parts are, and how much they weigh at most. General. No condition. -/
namespace Go.Eng
open Go.RowKit Go.ChangeShapes Go.WideShapes Go.ChangeAt
section
variable {H : Type} {enc : TypeId × Value → H} {P : Program} {w : World} {spare : Nat → Bool} {held : Bool}
def Lt (P : Program) (t : TypeId) (d : DataW H) : Prop := ∀ n ∈ d.weights P t, n ≤ reachBytes
theorem weightsAll_mem {e : TypeId} : ∀ {ds : List (DataW H)} {d : DataW H}, d ∈ ds → ∀ n ∈ d.weights P e, n ∈ DataW.weightsAll P e ds
 | x :: ds, d, hd, n, hn => by
  simp only [DataW.weightsAll, List.mem_append]
  rcases List.mem_cons.1 hd with rfl | hd
  ·exact .inl hn
  ·exact .inr (weightsAll_mem hd n hn)
theorem Lt.arg {ts : List TypeId} {ds : List (DataW H)} (h : (DataW.weightsEach P ts ds).all (· ≤ reachBytes) = true) {j : Nat} {t : TypeId} {d : DataW H} (ht : ts[j]? = some t) (hd : ds[j]? = some d) : Lt P t d := fun n hn => by
 have := List.all_eq_true.1 h _ (DataW.weights_mem_each ht hd n hn)
 simpa using this
theorem Lt.str {t : TypeId} {b : List UInt8} (h : Lt (H := H) P t (.lit (.string b))) : b.length ≤ reachBytes := h b.length (by simp [DataW.weights])
theorem rd_struct {t : TypeId} {fs : Array Field} {fuel : Nat} {cs : List Value} {x : DataW H × List MemPlace} (ht : P.underlying t = some (.struct fs)) (h : DataW.trod enc P w 0 spare held fuel t cs = some x) (hw : Lt P t x.1) :
  cs.length = P.cellsOf t ∧ ∃ n, n < fuel ∧ ∀ (i : Nat) (f : Field), fs[i]? = some f → ∃ y, DataW.trod enc P w 0 spare held n f.type ((cs.drop f.offset).take (P.cellsOf f.type)) = some y ∧ Lt P f.type y.1 := by
 obtain ⟨xs, n, hfu, rfl, hlen, hxl, hf⟩ := DataW.trod_struct ht h
 refine ⟨hlen, n, by omega, fun i f hi => ?_⟩
 have hlt : i < xs.length := by rw [hxl]; exact (Array.getElem?_eq_some_iff.1 hi).1
 refine ⟨xs[i], by rw [hf i f hi, List.getElem?_eq_getElem hlt], fun k hk => hw k ?_⟩
 simp only [DataW.weights, ht]
 exact DataW.weights_mem_each (j := i) (t := f.type) (d := xs[i].1) (by simpa using ⟨f, by simpa using hi, rfl⟩) (by simp [hlt]) k hk
theorem rd_slice0 {t e : TypeId} {sz fuel : Nat} {cs : List Value} {x : DataW H × List MemPlace} (ht : P.underlying t = some (.slice e)) (hs : P.cellsOf e = sz) (h : DataW.trod enc P w 0 spare held fuel t cs = some x) (hw : Lt P t x.1) :
  ∃ (q : Option Addr) (len cap : Nat), cs = [.slice q len cap] ∧ len ≤ cap ∧ cap ≤ maxLen ∧ len * P.bytesOf e ≤ reachBytes ∧ (q = none → len = 0) ∧
   ∃ n, n < fuel ∧ ∀ a, q = some a → ∀ i, i < len → ∃ cs' y, CellsAt w (a.add (i * sz)) cs' ∧ cs'.length = sz ∧ DataW.trod enc P w 0 spare held n e cs' = some y ∧ Lt P e y.1 := by
 rcases DataW.trod_slice ht h with ⟨rfl, _⟩ | ⟨a, len, cap, elems, rest, n, hf, rfl, rfl, _, hl, hm, hlen, hel, _, _⟩
 ·refine ⟨none, 0, 0, rfl, Nat.le_refl _, by simp [maxLen], by simp, fun _ => rfl, 0, ?_, fun a ha => by cases ha⟩
  cases fuel with
  | zero => simp [DataW.trod] at h
  | succ n => omega
 ·have hwt : len * P.bytesOf e ≤ reachBytes := by
   have h1 := hw ((elems.map (·.1)).length * P.bytesOf e + (rest.map (·.1)).length * P.bytesOf e) (by simp [DataW.weights, ht, Nat.add_mul])
   rw [List.length_map, hlen] at h1
   omega
  refine ⟨some a, len, cap, rfl, hl, hm, hwt, (fun hn => by cases hn), n, by omega, fun a' ha i hi => ?_⟩
  obtain rfl := Option.some.inj ha
  have h1 := hel i hi
  rw [List.getElem?_eq_getElem (by omega)] at h1
  rw [hs] at h1
  obtain ⟨cs', hc, ht'⟩ := Option.bind_eq_some_iff.1 h1
  obtain ⟨h2, h3⟩ := cellsAt_of hc
  refine ⟨cs', _, h2, h3, ht', fun k hk => hw k ?_⟩
  simp only [DataW.weights, ht]
  exact List.mem_cons_of_mem _ (List.mem_append_left _ (weightsAll_mem (d := elems[i].1) (List.mem_map.2 ⟨_, List.getElem_mem (by omega), rfl⟩) k hk))
variable {α : Type} {f : α → List Value} {sz : Nat} {R : α → Prop}
theorem rd_slice {t e : TypeId} {fuel : Nat} {cs : List Value} {x : DataW H × List MemPlace} (ht : P.underlying t = some (.slice e)) (hs : P.cellsOf e = sz) (hsz : 0 < sz) (hf : ∀ x, (f x).length = sz)
  (he : ∀ (n : Nat) (cs' : List Value) (y : DataW H × List MemPlace), n < fuel → DataW.trod enc P w 0 spare held n e cs' = some y → Lt P e y.1 → ∃ u : α, cs' = f u ∧ R u)
  (h : DataW.trod enc P w 0 spare held fuel t cs = some x) (hw : Lt P t x.1) :
  ∃ (q : Option Addr) (l : List α) (cap : Nat), cs = [.slice q l.length cap] ∧ l.length ≤ cap ∧ cap ≤ maxLen ∧ l.length * P.bytesOf e ≤ reachBytes ∧ SlAt w w.heap.size q (cat f l) ∧ ∀ u ∈ l, R u := by
 obtain ⟨q, len, cap, rfl, hle, hcap, hwt, hq0, m, hm, hel⟩ := rd_slice0 ht hs h hw
 cases q with
 | none =>
  obtain rfl := hq0 rfl
  exact ⟨none, [], cap, rfl, hle, hcap, by simp, SlAt.nil, fun u hu => by cases hu⟩
 | some a =>
  obtain ⟨l, hl, hr⟩ := list_of (fun i (u : α) => CellsAt w (a.add (i * sz)) (f u) ∧ R u) len (fun i hi => by
   obtain ⟨cs', y, hc, hl1, ht', hy⟩ := hel a rfl i hi
   obtain ⟨u, rfl, hR⟩ := he m cs' y hm ht' hy
   exact ⟨u, hc, hR⟩)
  subst hl
  refine ⟨some a, l, cap, rfl, hle, hcap, hwt, fun hv => ⟨a, rfl, ?_, fun j v hj => ?_⟩, fun u hu => ?_⟩
  ·rw [cat_length hf] at hv
   have hl0 : 0 < l.length := Nat.pos_of_mul_pos_right hv
   have h0 := (hr 0 _ (List.getElem?_eq_getElem hl0)).1
   rw [Nat.zero_mul, add_zero_] at h0
   have hz : 0 < (f l[0]).length := by rw [hf]; exact hsz
   have := h0 0 _ (List.getElem?_eq_getElem hz)
   rw [add_zero_] at this
   exact cell_lt this
  ·have hjl := (List.getElem?_eq_some_iff.1 hj).1
   rw [cat_length hf] at hjl
   have hi : j / sz < l.length := Nat.div_lt_of_lt_mul (by rwa [Nat.mul_comm] at hjl)
   have h0 := (hr (j / sz) _ (List.getElem?_eq_getElem hi)).1
   have hm' : j % sz < (f l[j / sz]).length := by rw [hf]; exact Nat.mod_lt _ hsz
   have h1 := cat_get hf (List.getElem?_eq_getElem hi) (j % sz) _ (List.getElem?_eq_getElem hm')
   have ej : j / sz * sz + j % sz = j := by rw [Nat.mul_comm]; exact Nat.div_add_mod j sz
   rw [ej, hj] at h1
   have h2 := h0 (j % sz) _ (List.getElem?_eq_getElem hm')
   rw [add_add, ej] at h2
   rw [h2, h1]
  ·obtain ⟨i, hi, rfl⟩ := List.getElem_of_mem hu
   exact (hr i _ (List.getElem?_eq_getElem hi)).2
end
end Go.Eng

/- Readings of data types and of rows of patterns. Conditions: none. -/
namespace Go.Eng
open Go.RowKit Go.ChangeShapes Go.WideShapes Go.ChangeAt
section
variable {H : Type} {enc : TypeId × Value → H} {P : Program} {w : World} {spare : Nat → Bool} {held : Bool} {α μ : Type} {R : Rel α μ}
theorem rd_arrL {t e : TypeId} {fuel : Nat} {cs : List Value} {x : DataW H × List MemPlace} (ht : P.underlying t = some (.slice e)) (hs : P.cellsOf e = R.sz)
  (he : ∀ (n : Nat) (cs' : List Value) (y : DataW H × List MemPlace), n < fuel → DataW.trod enc P w 0 spare held n e cs' = some y → Lt P e y.1 → ∃ u : α × μ, cs' = R.c u ∧ R.ok w (low w) u.1 u.2)
  (h : DataW.trod enc P w 0 spare held fuel t cs = some x) (hw : Lt P t x.1) :
  ∃ (q : Option Addr) (l : List (α × μ)) (cap : Nat), cs = [.slice q l.length cap] ∧ l.length ≤ cap ∧ cap ≤ maxLen ∧ l.length * P.bytesOf e ≤ reachBytes ∧ Arr R w (low w) l q := by
 obtain ⟨q, l, cap, e1, h1, h2, h3, h4, h5⟩ := rd_slice (α := α × μ) (f := R.c) (R := fun u => R.ok w (low w) u.1 u.2) ht hs R.pos R.clen he h hw
 exact ⟨q, l, cap, e1, h1, h2, h3, fun hl => h4 (by rw [cat_length (f := R.c) R.clen]; exact Nat.mul_pos hl R.pos), h5⟩
end
end Go.Eng
namespace Go.Proofs.Ytleggdmhihcafaa.pt
open Go.RowKit Go.Eng Go.Pt Go.ChangeShapes Go.WideShapes Go.ChangeAt
set_option maxRecDepth 100000
section
variable {H : Type} {enc : TypeId × Value → H} {w : World} {spare : Nat → Bool} {held : Bool}
theorem list2 {α : Type} {l : List α} (h : l.length = 2) : ∃ a0 a1, l = [a0, a1] := by
 match l, h with
 | [a0, a1], _ => exact ⟨a0, a1, rfl⟩
theorem list3 {α : Type} {l : List α} (h : l.length = 3) : ∃ a0 a1 a2, l = [a0, a1, a2] := by
 match l, h with
 | [a0, a1, a2], _ => exact ⟨a0, a1, a2, rfl⟩
theorem reach47 : reachBytes ≤ 140737488355328 := by decide
theorem con_rd {fuel : Nat} {cs : List Value} {x : DataW H × List MemPlace} (h : DataW.trod enc Try.prog w 0 spare held fuel 86 cs = some x) (hw : Lt Try.prog 86 x.1) : ∃ u : Co × PY, cs = conR.c u ∧ conR.ok w (low w) u.1 u.2 := by
 obtain ⟨hlen, n, hn, hf⟩ := rd_struct Try.underlying86 h hw
 rw [show Try.prog.cellsOf 86 = 2 by kernel_rfl] at hlen
 obtain ⟨a0, a1, rfl⟩ := list2 hlen
 obtain ⟨y0, g0, w0⟩ := hf 0 _ rfl
 obtain ⟨y1, g1, w1⟩ := hf 1 _ rfl
 change DataW.trod enc Try.prog w 0 spare held n 9 ((List.drop 0 [a0, a1]).take (Try.prog.cellsOf 9)) = some y0 at g0
 change DataW.trod enc Try.prog w 0 spare held n 84 ((List.drop 1 [a0, a1]).take (Try.prog.cellsOf 84)) = some y1 at g1
 rw [show Try.prog.cellsOf 9 = 1 by kernel_rfl] at g0
 rw [show Try.prog.cellsOf 84 = 1 by kernel_rfl] at g1
 obtain ⟨nm, e0, _, _⟩ := DataW.trod_string Try.underlying9 g0
 obtain ⟨q1, l1, c1, e1, b1, m1, n1, _, _⟩ := rd_slice0 (sz := 4) Try.underlying84 (by kernel_rfl) g1 w1
 rw [show Try.prog.bytesOf 158 = 56 by kernel_rfl] at n1
 have h47 := reach47
 simp at e0 e1
 refine ⟨(⟨nm, l1⟩, (q1, c1)), ?_, ?_⟩
 ·rw [e0, e1]
  rfl
 ·show l1 * 56 ≤ 140737488355328
  omega
theorem dat_rd {fuel : Nat} {cs : List Value} {x : DataW H × List MemPlace} (h : DataW.trod enc Try.prog w 0 spare held fuel 89 cs = some x) (hw : Lt Try.prog 89 x.1) : ∃ u : Da × DY, cs = datR.c u ∧ datR.ok w (low w) u.1 u.2 := by
 obtain ⟨hlen, n, hn, hf⟩ := rd_struct Try.underlying89 h hw
 rw [show Try.prog.cellsOf 89 = 3 by kernel_rfl] at hlen
 obtain ⟨a0, a1, a2, rfl⟩ := list3 hlen
 obtain ⟨y0, g0, w0⟩ := hf 0 _ rfl
 obtain ⟨y1, g1, w1⟩ := hf 1 _ rfl
 obtain ⟨y2, g2, w2⟩ := hf 2 _ rfl
 change DataW.trod enc Try.prog w 0 spare held n 9 ((List.drop 0 [a0, a1, a2]).take (Try.prog.cellsOf 9)) = some y0 at g0
 change DataW.trod enc Try.prog w 0 spare held n 3 ((List.drop 1 [a0, a1, a2]).take (Try.prog.cellsOf 3)) = some y1 at g1
 change DataW.trod enc Try.prog w 0 spare held n 87 ((List.drop 2 [a0, a1, a2]).take (Try.prog.cellsOf 87)) = some y2 at g2
 rw [show Try.prog.cellsOf 9 = 1 by kernel_rfl] at g0
 rw [show Try.prog.cellsOf 3 = 1 by kernel_rfl] at g1
 rw [show Try.prog.cellsOf 87 = 1 by kernel_rfl] at g2
 obtain ⟨nm, e0, _, _⟩ := DataW.trod_string Try.underlying9 g0
 obtain ⟨i1, e1, _⟩ := DataW.trod_int Try.underlying3 g1
 obtain ⟨q2, l2, c2, e2, b2, m2, n2, o2⟩ := rd_arrL (R := conR) Try.underlying87 (by kernel_rfl) (fun n cs' y _ hy hwy => con_rd hy hwy) g2 w2
 unfold maxLen at m2
 simp at e0 e1 e2
 refine ⟨(⟨l2.map Prod.fst⟩, ⟨nm, i1, q2, c2⟩), ?_, ⟨l2, rfl, o2⟩, ?_⟩
 ·rw [e0, e1, e2]
  show _ = [Value.string nm, .int .i64 i1, .slice q2 (l2.map Prod.fst).length c2]
  rw [List.length_map]
 ·show (l2.map Prod.fst).length ≤ 9223372036854775807
  rw [List.length_map]
  omega
theorem pat_rd {fuel : Nat} {cs : List Value} {x : DataW H × List MemPlace} (h : DataW.trod enc Try.prog w 0 spare held fuel 50 cs = some x) : ∃ u : Ty × PY, cs = tyR.c u ∧ tyR.ok w (low w) u.1 u.2 := by
 obtain ⟨t, ht⟩ := ty_of Try.underlying50 Try.underlying3 Try.underlying9 Try.underlying25 ⟨rfl, rfl⟩ ⟨rfl, rfl⟩ ⟨rfl, rfl⟩ ⟨rfl, rfl⟩ (by kernel_rfl) (by kernel_rfl) (by kernel_rfl) (by kernel_rfl) fuel h
 obtain ⟨y, h1, h2⟩ := TyO.of_C ht
 exact ⟨(t, y), h1, h2⟩
theorem pats_rd {fuel : Nat} {cs : List Value} {x : DataW H × List MemPlace} (h : DataW.trod enc Try.prog w 0 spare held fuel 25 cs = some x) : ∃ u : List Ty × PY, cs = patsR.c u ∧ patsR.ok w (low w) u.1 u.2 := by
 obtain ⟨q, l, cap, e, h1, h2, h3⟩ := rd_arr (R := tyR) Try.underlying25 (by kernel_rfl) (fun n cs' y _ hy => pat_rd hy) h
 unfold maxLen at h2
 refine ⟨(l.map Prod.fst, (q, cap)), ?_, ⟨l, rfl, h3⟩, ?_, ?_⟩
 ·rw [e]
  show _ = [Value.slice q (l.map Prod.fst).length cap]
  rw [List.length_map]
 ·rw [List.length_map]
  exact h1
 ·rw [List.length_map]
  omega
theorem rows_rd {fuel : Nat} {cs : List Value} {x : DataW H × List MemPlace} (h : DataW.trod enc Try.prog w 0 spare held fuel 23 cs = some x) : ∃ (q : Option Addr) (l : List (List Ty × PY)) (cap : Nat), cs = [.slice q l.length cap] ∧ l.length ≤ cap ∧ cap ≤ maxLen ∧ Arr patsR w (low w) l q :=
 rd_arr (R := patsR) Try.underlying23 (by kernel_rfl) (fun n cs' y _ hy => pats_rd hy) h
theorem datas_rd {fuel : Nat} {cs : List Value} {x : DataW H × List MemPlace} (h : DataW.trod enc Try.prog w 0 spare held fuel 22 cs = some x) (hw : Lt Try.prog 22 x.1) : ∃ (q : Option Addr) (l : List (Da × DY)) (cap : Nat), cs = [.slice q l.length cap] ∧ l.length ≤ cap ∧ cap ≤ maxLen ∧ Arr datR w (low w) l q := by
 obtain ⟨q, l, cap, e, h1, h2, _, h3⟩ := rd_arrL (R := datR) Try.underlying22 (by kernel_rfl) (fun n cs' y _ hy hwy => dat_rd hy hwy) h hw
 exact ⟨q, l, cap, e, h1, h2, h3⟩
end
end Go.Proofs.Ytleggdmhihcafaa.pt
