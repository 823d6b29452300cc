/- Texts of the proof of SsaRuns, part 4: rules of a calculus for walking, plain laws, and walks of the functions that the law reaches. No condition. -/
import Derived.Test.YtehelljmaiophaaSsaRuns3
set_option linter.unusedVariables false
set_option linter.unusedSimpArgs false
/- The walk of ssa's exec at words and vectors. Conditions: none. -/
namespace Go.Ss
open Go.Eng Go.RowKit Go.Proofs.Ytehelljmaiophaa.ss
section
variable {x : XS} {sA : List (List SV)} {op n t : Int} {p0 p1 v : PV} {v0 v1 : SV} {bt : Nat} {vs : List PV} {svs : List SV}
theorem ex_bin (hop : 1 ≤ op ∧ op ≤ 7) (hx : XOk x sA) (he0 : Er (bxN x.bs) p0 v0) (he1 : Er (bxN x.bs) p1 v1) (hk0 : p0.k = 0) (hk1 : p1.k = 0) (hv : binA op p0.n p1.n = (v, t)) : ExR (insP op n [v0, v1] sA x.out) x x vs bt v t := by
 rw [insP_bin hop]
 have e0 : allK 0 [v0, v1] = true := by
  rw [allK_iff]
  intro y hy
  rcases List.mem_cons.1 hy with rfl | hy
  ·rw [← he0.k]; exact hk0
  ·rw [List.mem_singleton.1 hy, ← he1.k]; exact hk1
 rw [if_neg (by rw [e0]; decide)]
 show ExR (if (op = 4 ∨ op = 5) ∧ v1.n = 0 then .trap 1 else .ok (wV (binV op v0.n v1.n)) sA x.out 0) x x vs bt v t
 rw [← he0.num (by omega), ← he1.num (by omega)]
 unfold binA at hv
 by_cases hc : (op = 4 ∨ op = 5) ∧ p1.n = 0
 ·rw [if_pos hc] at hv ⊢
  obtain ⟨rfl, rfl⟩ := Prod.mk.inj hv
  exact ⟨rfl, rfl⟩
 ·rw [if_neg hc] at hv ⊢
  obtain ⟨rfl, rfl⟩ := Prod.mk.inj hv
  exact ExR.val hx (erw _) (.inl (.inl rfl))
theorem ex_kinds (hop : 1 ≤ op ∧ op ≤ 7) (he0 : Er (bxN x.bs) p0 v0) (he1 : Er (bxN x.bs) p1 v1) (hk : ¬ (p0.k = 0 ∧ p1.k = 0)) : ExR (insP op n [v0, v1] sA x.out) x x vs bt zP 5 := by
 rw [insP_bin hop, if_pos]
 ·exact ⟨rfl, rfl⟩
 ·rw [Bool.eq_false_iff]
  intro ht
  have := allK_iff.1 ht
  exact hk ⟨by rw [he0.k]; exact this v0 (by simp), by rw [he1.k]; exact this v1 (by simp)⟩
theorem ex_22 (hx : XOk x sA) (hE : Ers (bxN x.bs) vs svs) (hv : packA (some ⟨bt, 0, none⟩) vs.length vs = (v, t)) : ExR (insP 22 n svs sA x.out) x x vs bt v t := by
 show ExR (if allK 0 svs = false then .trap 5 else .ok (.mk 4 0 svs) sA x.out 0) x x vs bt v t
 unfold packA at hv
 rw [hE.allK] at hv
 cases ha : allK 0 svs with
 | true =>
  rw [ha, if_pos rfl] at hv
  rw [if_neg (by decide)]
  obtain ⟨rfl, rfl⟩ := Prod.mk.inj hv
  exact ExR.val hx (Er.of (by unfold bxN; rw [if_neg (by decide)]) hE) (.inr ⟨rfl, rfl⟩)
 | false =>
  rw [ha, if_neg (by decide)] at hv
  rw [if_pos rfl]
  obtain ⟨rfl, rfl⟩ := Prod.mk.inj hv
  exact ⟨rfl, rfl⟩
theorem ex_24 (hx : XOk x sA) (he0 : Er (bxN x.bs) p0 v0) (hv : laneA n p0 = (v, t)) (hin0 : InP x.L p0) : ExR (insP 24 n [v0] sA x.out) x x vs bt v t := by
 show ExR (if v0.k ≠ 4 ∨ (v0.l.length : Int) ≤ n then .trap 5 else .ok (v0.l.getD n.toNat zV) sA x.out 0) x x vs bt v t
 rw [← he0.k, ← he0.l.len]
 unfold laneA at hv
 by_cases hc : p0.k ≠ 4 ∨ (p0.l.length : Int) ≤ n
 ·rw [if_pos hc] at hv ⊢
  obtain ⟨rfl, rfl⟩ := Prod.mk.inj hv
  exact ⟨rfl, rfl⟩
 ·rw [if_neg hc] at hv ⊢
  obtain ⟨rfl, rfl⟩ := Prod.mk.inj hv
  exact ExR.val hx (he0.lkid n) (.inl (hin0.getD _))
theorem ex_23t (he0 : Er (bxN x.bs) p0 v0) (he1 : Er (bxN x.bs) p1 v1) (hc : p0.k ≠ 4 ∨ p1.k ≠ 4 ∨ p0.l.length ≠ p1.l.length) : ExR (insP 23 n [v0, v1] sA x.out) x x vs bt zP 5 := by
 show ExR (if allK 4 [v0, v1] = false ∨ v0.l.length ≠ v1.l.length then .trap 5 else .ok (.mk 4 0 (List.zipWith (fun x y => wV (binV n x.n y.n)) v0.l v1.l)) sA x.out 0) x x vs bt zP 5
 rw [if_pos]
 ·exact ⟨rfl, rfl⟩
 ·rw [← he0.l.len, ← he1.l.len]
  by_cases hl : p0.l.length = p1.l.length
  ·refine .inl ?_
   rw [Bool.eq_false_iff]
   intro ht
   have := allK_iff.1 ht
   have h0 := this v0 (by simp)
   have h1 := this v1 (by simp)
   rw [← he0.k] at h0
   rw [← he1.k] at h1
   omega
  ·exact .inr hl
theorem zip_er {bx : List Nat} : ∀ {l m : List PV} {l' m' : List SV}, Ers (bxN bx) l l' → Ers (bxN bx) m m' → (∀ v ∈ l', v.k = 0) → (∀ v ∈ m', v.k = 0) → Ers (bxN bx) (List.zipWith (fun x y => pw (binV n x.n y.n)) l m) (List.zipWith (fun x y => wV (binV n x.n y.n)) l' m')
 | [], _, [], _, _, _, _, _ => Ers.nil
 | p :: l, [], v :: l', [], _, _, _, _ => Ers.nil
 | p :: l, q :: m, v :: l', u :: m', h, g, hl, hm => by
  simp only [Ers] at h g
  simp only [List.zipWith_cons_cons]
  have e1 := h.1.num (by rw [h.1.k, hl v (.head _)]; decide)
  have e2 := g.1.num (by rw [g.1.k, hm u (.head _)]; decide)
  rw [e1, e2]
  exact Ers.cons (erw _) (zip_er h.2 g.2 (fun y hy => hl y (.tail _ hy)) (fun y hy => hm y (.tail _ hy)))
 | [], _, _ :: _, _, h, _, _, _ => by simp only [Ers] at h
 | _ :: _, _, [], _, h, _, _, _ => by simp only [Ers] at h
 | p :: l, [], v :: l', u :: m', _, g, _, _ => by simp only [Ers] at g
 | p :: l, q :: m, v :: l', [], _, g, _, _ => by simp only [Ers] at g
theorem XOk.push {x : XS} {sA : List (List SV)} (hx : XOk x sA) (v : PV × Unit) (O : Nat → Prop) : XOk { x with L := x.L ++ [v], Op := O } sA :=
 ⟨hx.no, hx.ol, hx.al, hx.ar, fun a ha p hp => (hx.ai a ha p hp).snoc, hx.a1, hx.sh, hx.l0, hx.l6⟩
theorem ex_23 {nf : Nat} {O : Nat → Prop} (hx : XOk x sA) (he0 : Er (bxN x.bs) p0 v0) (he1 : Er (bxN x.bs) p1 v1) (hw0 : WfV nf sA.length v0) (hw1 : WfV nf sA.length v1) (hc : ¬ (p0.k ≠ 4 ∨ p1.k ≠ 4 ∨ p0.l.length ≠ p1.l.length)) (h1 : v.k = 4) (h2 : v.n = 0) (h3 : v.l = List.zipWith (fun x y => pw (binV n x.n y.n)) p0.l p1.l) :
  ExR (insP 23 n [v0, v1] sA x.out) x { x with L := x.L ++ [(v, ())], Op := O } vs bt v 0 := by
 show ExR (if allK 4 [v0, v1] = false ∨ v0.l.length ≠ v1.l.length then .trap 5 else .ok (.mk 4 0 (List.zipWith (fun x y => wV (binV n x.n y.n)) v0.l v1.l)) sA x.out 0) _ _ _ _ _ _
 have hk0 : v0.k = 4 := by rw [← he0.k]; omega
 have hk1 : v1.k = 4 := by rw [← he1.k]; omega
 rw [if_neg]
 ·refine ⟨rfl, .inr ⟨hx.l0, hx.push _ _, rfl, MSame.refl _, by simp, ?_, ⟨[], by simp [XS.bs]⟩, fun r hr => List.mem_append_left _ hr, .inl InP.last⟩⟩
  obtain ⟨k, m, q, cap, b, l⟩ := v
  simp only [PV.k, PV.n, PV.l] at h1 h2 h3
  subst h1 h2 h3
  exact Er.of (by unfold bxN; rw [if_neg (by decide)]) (zip_er he0.l he1.l (hw0.vec hk0) (hw1.vec hk1))
 ·rintro (ht | ht)
  ·have : allK 4 [v0, v1] = true := by
    rw [allK_iff]
    intro y hy
    rcases List.mem_cons.1 hy with rfl | hy
    ·exact hk0
    ·rw [List.mem_singleton.1 hy]; exact hk1
   rw [this] at ht; cases ht
  ·rw [← he0.l.len, ← he1.l.len] at ht
   omega
end
end Go.Ss
namespace Go.Proofs.Ytehelljmaiophaa.ss
set_option maxRecDepth 100000
open Go.Eng Go.RowKit Go.Ss
theorem exec_bin (bm : Nat) (i : Go.Ss.In) (iy : Sc) (hform : formE i = 0) (hop : 1 ≤ i.op ∧ i.op ≤ 7) (vs : List PV) (svs : List SV) (x : XS) (sA : List (List SV)) (hx : XOk x sA) (hvl : vs.length = i.args.length) (bt : Nat) (hE : Ers (bxN x.bs) vs svs) (hin : ∀ p ∈ vs, InP x.L p) (nf : Nat) (hwf : ∀ v ∈ svs, WfV nf sA.length v) (H : List Eng.Item) (S : List World) (s0 : World) (hs0 : s0 ∈ S) (w : World)
  (hc : Cls (blk bt 198 (cat pC vs) :: xI s0.heap.size bm x H) S w) :
  Calls Try.prog 141 [.pointer (some ⟨bm, 0, none⟩), .agg (inC i iy).toArray, .slice (some ⟨bt, 0, none⟩) vs.length vs.length].toArray w fun e w' =>
   ∃ v t x', e = .returned (.tuple #[.agg (pC v).toArray, .int .i64 t]) ∧ ExR (insP i.op i.n svs sA x.out) x x' vs bt v t ∧ Cls (blk bt 198 (cat pC vs) :: xI s0.heap.size bm x' H) S w' := by
 have hbs : ∃ s ∈ S, s0.heap.size ≤ s.heap.size := ⟨s0, hs0, Nat.le_refl _⟩
 obtain ⟨fa0, fa2, fa3, fa1, fa16, _⟩ := form_args hform
 obtain ⟨fn1, fn2⟩ := num_range hform
 obtain ⟨p0, p1, v0, v1, rfl, rfl, he0, he1⟩ := hE.two (by omega)
 have hin0 := hin p0 (by simp)
 have hin1 := hin p1 (by simp)
 unfold xI at hc ⊢
 refine enter Try.func141 rfl Try.ntmps141 rfl hc (zen ?_)
 unfold inC
 apply W.sr
 apply OL.box; rfl; rfl; exact CellsL.agg; (intro bk hbk; have hbk0 := hbk.mem s0 hs0)
 apply OL.alloc; rfl; rfl; exact CellsL.agg; (intro bk hbk; have hbk0 := hbk.mem s0 hs0)
 refine zgs ?_
 rename_i b4 hb4 hb40
 revert hbk0
 revert bk
 intro b6 hb6 hb60
 refine W.cnd ?_ ?_ <;> intro hq0 <;> try exact zwx hq0
 have hwf0 := hwf v0 (by simp)
 have hwf1 := hwf v1 (by simp)
 refine zgs ?_
 refine W.joinc [(0, true, .pointer (some ⟨bm, 0, none⟩)), (2, true, .slice (some ⟨bt, 0, none⟩) 2 2), (4, true, .pointer (some ⟨b4, 0, none⟩)), (6, true, .pointer (some ⟨b6, 0, none⟩)), (7, true, .int .i64 0), (15, true, .bool true)] (Cls (blk b6 198 [.int .i64 0, .int .i64 0, .slice none 0 0, .pointer none] :: blk b4 85 [.int .i64 i.to_, .int .i64 i.op, .int .i64 i.n, .slice iy.1 i.args.length iy.2] :: blk bt 198 (cat pC [p0, p1]) :: blk bm 160 x.m.c :: row s0.heap.size x.Oo x.m.qo x.m.no x.m.co 3 1 (ints x.out) :: pool (pvR pF) s0.heap.size x.Op x.L :: bag s0.heap.size (arI x.A) :: H) S) ?_ ?_
 ·skip
  refine W.cnd ?_ ?_ <;> intro hk1 <;> try exact zwx hk1
  ·apply W.skip
   exact At.joined (by rw [decide_eq_true hk1]; exact Sub.au) (fun w' hw' => hw')
  refine zgs ?_
  refine W.cnd ?_ ?_ <;> intro hk2 <;> try exact zwx hk2
  ·apply W.skip
   exact At.joined (by rw [decide_eq_true hk2]; exact Sub.au) (fun w' hw' => hw')
  refine zgs ?_
  refine W.cnd ?_ ?_ <;> intro hk3 <;> try exact zwx hk3
  ·apply W.skip
   exact At.joined (by rw [decide_eq_true hk3]; exact Sub.au) (fun w' hw' => hw')
  refine zgs ?_
  refine W.cnd ?_ ?_ <;> intro hk4 <;> try exact zwx hk4
  ·apply W.skip
   exact At.joined (by rw [decide_eq_true hk4]; exact Sub.au) (fun w' hw' => hw')
  refine zgs ?_
  refine W.cnd ?_ ?_ <;> intro hk5 <;> try exact zwx hk5
  ·apply W.skip
   exact At.joined (by rw [decide_eq_true hk5]; exact Sub.au) (fun w' hw' => hw')
  refine zgs ?_
  refine W.cnd ?_ ?_ <;> intro hk6 <;> try exact zwx hk6
  ·apply W.skip
   exact At.joined (by rw [decide_eq_true hk6]; exact Sub.au) (fun w' hw' => hw')
  refine zgs ?_
  exact At.joined (by rw [decide_eq_true (show i.op = 7 by omega)]; exact Sub.au) (fun w' hw' => hw')
 refine W.cond rfl (fun _ => ?_) (fun h => by cases h)
 refine zgs ?_
 (((first | apply OL.op | apply QL.op); exact Guard.au; rfl; rfl); (exact Pev.call (v := .bool (decide (p0.k = 0) && decide (p1.k = 0))) rfl (by exact Args.au) (fun _ w2 hw2 => (all_calls [p0, p1] (some ⟨bt, 0, none⟩) 2 0 w2 (by simp) (argsAt hw2 (.tail _ (.tail _ (.head _))) (.tail _ (.tail _ (.tail _ (.tail _ (.tail _ (.head _)))))) hin)).mono (fun e w3 h => ⟨by rw [h.1]; simp, hw2.ext h.2⟩))))
 refine zgs ?_
 by_cases hk : p0.k = 0 ∧ p1.k = 0
 ·refine W.cond rfl (fun h => by simp at h; omega) (fun _ => ?_)
  rw [cat2C]
  obtain ⟨v, t, hv⟩ : ∃ v t, binA i.op p0.n p1.n = (v, t) := ⟨_, _, rfl⟩
  refine zgs ?_
  apply W.regq; apply Split.s rfl; apply Split.s rfl; apply Split.s rfl; apply Split.s rfl; apply Split.s rfl; apply Split.s rfl; apply Split.s rfl; apply Split.s rfl; apply Split.s rfl; apply Split.s rfl; apply Split.s rfl; apply Split.s rfl; apply Split.s rfl; exact Split.z rfl; kernel_rfl; decide +kernel; exact fun w hw => hw.drew
  refine zgs ?_
  (((first | apply OL.op | apply QL.op); exact Guard.au; rfl; rfl); (exact Pev.call (v := .tuple #[.agg (pC v).toArray, .int .i64 t]) rfl (by exact Args.au) (fun _ w2 hw2 => (binary_calls i.op p0.n p1.n hop (fun _ => ⟨by rw [he0.num (by omega)]; exact hwf0.word (by rw [← he0.k]; exact hk.1), by rw [he1.num (by omega)]; exact hwf1.word (by rw [← he1.k]; exact hk.2)⟩) w2).mono (fun e w3 h => ⟨by rw [h.1, hv], hw2.ext h.2⟩))))
  refine zgs ?_
  exact At.finCT (b := b6) (cs := [.int .i64 v.k, .int .i64 v.n, .slice v.q v.l.length v.cap, .pointer (if v.k = 3 then some ⟨v.b, 0, none⟩ else none)]) rfl rfl (by exact mau) rfl rfl rfl (fun w' hw' => ⟨v, t, x, rfl, ex_bin hop hx he0 he1 hk.1 hk.2 hv, hw'.thin (.any (fun k hk => by rw [show k = b6 from hk]; exact hb6) (.any (fun k hk => by rw [show k = b4 from hk]; exact hb4) Thin.same))⟩)
 ·refine W.cond rfl (fun _ => ?_) (fun h => by simp at h; omega)
  refine zgs ?_
  exact At.finCT (b := b6) (cs := [.int .i64 0, .int .i64 0, .slice none 0 0, .pointer none]) rfl rfl (by exact mau) rfl rfl rfl (fun w' hw' => ⟨zP, 5, x, rfl, ex_kinds hop he0 he1 hk, hw'.thin (.any (fun k hk => by rw [show k = b6 from hk]; exact hb6) (.any (fun k hk => by rw [show k = b4 from hk]; exact hb4) Thin.same))⟩)
theorem exec_22 (bm : Nat) (i : Go.Ss.In) (iy : Sc) (hform : formE i = 0) (hop : i.op = 22) (vs : List PV) (svs : List SV) (x : XS) (sA : List (List SV)) (hx : XOk x sA) (hvl : vs.length = i.args.length) (bt : Nat) (hE : Ers (bxN x.bs) vs svs) (hin : ∀ p ∈ vs, InP x.L p) (nf : Nat) (hwf : ∀ v ∈ svs, WfV nf sA.length v) (H : List Eng.Item) (S : List World) (s0 : World) (hs0 : s0 ∈ S) (w : World)
  (hc : Cls (blk bt 198 (cat pC vs) :: xI s0.heap.size bm x H) S w) :
  Calls Try.prog 141 [.pointer (some ⟨bm, 0, none⟩), .agg (inC i iy).toArray, .slice (some ⟨bt, 0, none⟩) vs.length vs.length].toArray w fun e w' =>
   ∃ v t x', e = .returned (.tuple #[.agg (pC v).toArray, .int .i64 t]) ∧ ExR (insP i.op i.n svs sA x.out) x x' vs bt v t ∧ Cls (blk bt 198 (cat pC vs) :: xI s0.heap.size bm x' H) S w' := by
 have hbs : ∃ s ∈ S, s0.heap.size ≤ s.heap.size := ⟨s0, hs0, Nat.le_refl _⟩
 obtain ⟨fa0, fa2, fa3, fa1, fa16, _⟩ := form_args hform
 obtain ⟨fn1, fn2⟩ := num_range hform
 unfold xI at hc ⊢
 refine enter Try.func141 rfl Try.ntmps141 rfl hc (zen ?_)
 unfold inC
 apply W.sr
 apply OL.box; rfl; rfl; exact CellsL.agg; (intro bk hbk; have hbk0 := hbk.mem s0 hs0)
 apply OL.alloc; rfl; rfl; exact CellsL.agg; (intro bk hbk; have hbk0 := hbk.mem s0 hs0)
 refine zgs ?_
 rename_i b4 hb4 hb40
 revert hbk0
 revert bk
 intro b6 hb6 hb60
 refine W.cnd ?_ ?_ <;> intro hq0 <;> try exact zwx hq0
 refine zgs ?_
 refine W.cnd ?_ ?_ <;> intro hq1 <;> try exact zwx hq1
 refine zgs ?_
 refine W.cnd ?_ ?_ <;> intro hq2 <;> try exact zwx hq2
 refine zgs ?_
 refine W.cnd ?_ ?_ <;> intro hq3 <;> try exact zwx hq3
 refine zgs ?_
 refine W.cnd ?_ ?_ <;> intro hq4 <;> try exact zwx hq4
 refine zgs ?_
 refine W.cnd ?_ ?_ <;> intro hq5 <;> try exact zwx hq5
 refine zgs ?_
 refine W.cnd ?_ ?_ <;> intro hq6 <;> try exact zwx hq6
 refine zgs ?_
 refine W.cnd ?_ ?_ <;> intro hq7 <;> try exact zwx hq7
 refine zgs ?_
 refine W.cnd ?_ ?_ <;> intro hq8 <;> try exact zwx hq8
 refine zgs ?_
 refine W.cnd ?_ ?_ <;> intro hq9 <;> try exact zwx hq9
 refine zgs ?_
 refine W.cnd ?_ ?_ <;> intro hq10 <;> try exact zwx hq10
 refine zgs ?_
 refine W.cnd ?_ ?_ <;> intro hq11 <;> try exact zwx hq11
 refine zgs ?_
 refine W.cnd ?_ ?_ <;> intro hq12 <;> try exact zwx hq12
 refine zgs ?_
 refine W.cnd ?_ ?_ <;> intro hq13 <;> try exact zwx hq13
 refine zgs ?_
 refine W.cnd ?_ ?_ <;> intro hq14 <;> try exact zwx hq14
 apply W.sk
 refine W.cnd ?_ ?_ <;> intro hq15 <;> try exact zwx hq15
 refine zgs ?_
 obtain ⟨v, t, hv⟩ : ∃ v t, packA (some ⟨bt, 0, none⟩) vs.length vs = (v, t) := ⟨_, _, rfl⟩
 (((first | apply OL.op | apply QL.op); exact Guard.au; rfl; rfl); (exact Pev.call (v := .tuple #[.agg (pC v).toArray, .int .i64 t]) rfl (by exact Args.au) (fun _ w2 hw2 => (vec_pack i iy hop vs (some ⟨bt, 0, none⟩) vs.length (by omega) w2 (argsAt hw2 (.tail _ (.tail _ (.head _))) (.tail _ (.tail _ (.tail _ (.tail _ (.tail _ (.head _)))))) hin)).mono (fun e w3 h => ⟨by rw [h.1, hv], hw2.ext h.2⟩))))
 refine zgs ?_
 exact At.finCT (b := b6) (cs := [.int .i64 v.k, .int .i64 v.n, .slice v.q v.l.length v.cap, .pointer (if v.k = 3 then some ⟨v.b, 0, none⟩ else none)]) rfl rfl (by exact mau) rfl rfl rfl (fun w' hw' => ⟨v, t, x, rfl, by rw [hop]; exact ex_22 hx hE hv, hw'.thin (.any (fun k hk => by rw [show k = b6 from hk]; exact hb6) (.any (fun k hk => by rw [show k = b4 from hk]; exact hb4) Thin.same))⟩)
theorem exec_24 (bm : Nat) (i : Go.Ss.In) (iy : Sc) (hform : formE i = 0) (hop : i.op = 24) (vs : List PV) (svs : List SV) (x : XS) (sA : List (List SV)) (hx : XOk x sA) (hvl : vs.length = i.args.length) (bt : Nat) (hE : Ers (bxN x.bs) vs svs) (hin : ∀ p ∈ vs, InP x.L p) (nf : Nat) (hwf : ∀ v ∈ svs, WfV nf sA.length v) (H : List Eng.Item) (S : List World) (s0 : World) (hs0 : s0 ∈ S) (w : World)
  (hc : Cls (blk bt 198 (cat pC vs) :: xI s0.heap.size bm x H) S w) :
  Calls Try.prog 141 [.pointer (some ⟨bm, 0, none⟩), .agg (inC i iy).toArray, .slice (some ⟨bt, 0, none⟩) vs.length vs.length].toArray w fun e w' =>
   ∃ v t x', e = .returned (.tuple #[.agg (pC v).toArray, .int .i64 t]) ∧ ExR (insP i.op i.n svs sA x.out) x x' vs bt v t ∧ Cls (blk bt 198 (cat pC vs) :: xI s0.heap.size bm x' H) S w' := by
 have hbs : ∃ s ∈ S, s0.heap.size ≤ s.heap.size := ⟨s0, hs0, Nat.le_refl _⟩
 obtain ⟨fa0, fa2, fa3, fa1, fa16, _⟩ := form_args hform
 obtain ⟨fn1, fn2⟩ := num_range hform
 obtain ⟨p0, v0, rfl, rfl, he0⟩ := hE.one (by omega)
 have hin0 := hin p0 (by simp)
 unfold xI at hc ⊢
 refine enter Try.func141 rfl Try.ntmps141 rfl hc (zen ?_)
 unfold inC
 apply W.sr
 apply OL.box; rfl; rfl; exact CellsL.agg; (intro bk hbk; have hbk0 := hbk.mem s0 hs0)
 apply OL.alloc; rfl; rfl; exact CellsL.agg; (intro bk hbk; have hbk0 := hbk.mem s0 hs0)
 refine zgs ?_
 rename_i b4 hb4 hb40
 revert hbk0
 revert bk
 intro b6 hb6 hb60
 refine W.cnd ?_ ?_ <;> intro hq0 <;> try exact zwx hq0
 refine zgs ?_
 refine W.cnd ?_ ?_ <;> intro hq1 <;> try exact zwx hq1
 refine zgs ?_
 refine W.cnd ?_ ?_ <;> intro hq2 <;> try exact zwx hq2
 refine zgs ?_
 refine W.cnd ?_ ?_ <;> intro hq3 <;> try exact zwx hq3
 refine zgs ?_
 refine W.cnd ?_ ?_ <;> intro hq4 <;> try exact zwx hq4
 refine zgs ?_
 refine W.cnd ?_ ?_ <;> intro hq5 <;> try exact zwx hq5
 refine zgs ?_
 refine W.cnd ?_ ?_ <;> intro hq6 <;> try exact zwx hq6
 refine zgs ?_
 refine W.cnd ?_ ?_ <;> intro hq7 <;> try exact zwx hq7
 refine zgs ?_
 refine W.cnd ?_ ?_ <;> intro hq8 <;> try exact zwx hq8
 refine zgs ?_
 refine W.cnd ?_ ?_ <;> intro hq9 <;> try exact zwx hq9
 refine zgs ?_
 refine W.cnd ?_ ?_ <;> intro hq10 <;> try exact zwx hq10
 refine zgs ?_
 refine W.cnd ?_ ?_ <;> intro hq11 <;> try exact zwx hq11
 refine zgs ?_
 refine W.cnd ?_ ?_ <;> intro hq12 <;> try exact zwx hq12
 refine zgs ?_
 refine W.cnd ?_ ?_ <;> intro hq13 <;> try exact zwx hq13
 refine zgs ?_
 refine W.cnd ?_ ?_ <;> intro hq14 <;> try exact zwx hq14
 refine zgs ?_
 refine W.cnd ?_ ?_ <;> intro hq15 <;> try exact zwx hq15
 refine zgs ?_
 refine W.cnd ?_ ?_ <;> intro hq16 <;> try exact zwx hq16
 refine zgs ?_
 obtain ⟨v, t, hv⟩ : ∃ v t, laneA i.n p0 = (v, t) := ⟨_, _, rfl⟩
 (((first | apply OL.op | apply QL.op); exact Guard.au; rfl; rfl); (exact Pev.call (v := .tuple #[.agg (pC v).toArray, .int .i64 t]) rfl (by exact Args.au) (fun _ w2 hw2 => (vec_lane i iy hop (fn1 (.inr hop)) _ (some ⟨bt, 0, none⟩) _ p0 rfl w2 (argsAt hw2 (.tail _ (.tail _ (.head _))) (.tail _ (.tail _ (.tail _ (.tail _ (.tail _ (.head _)))))) hin)).mono (fun e w3 h => ⟨by rw [h.1, hv], hw2.ext h.2⟩))))
 refine zgs ?_
 exact At.finCT (b := b6) (cs := [.int .i64 v.k, .int .i64 v.n, .slice v.q v.l.length v.cap, .pointer (if v.k = 3 then some ⟨v.b, 0, none⟩ else none)]) rfl rfl (by exact mau) rfl rfl rfl (fun w' hw' => ⟨v, t, x, rfl, by rw [hop]; exact ex_24 hx he0 hv hin0, hw'.thin (.any (fun k hk => by rw [show k = b6 from hk]; exact hb6) (.any (fun k hk => by rw [show k = b4 from hk]; exact hb4) Thin.same))⟩)
theorem exec_23 (bm : Nat) (i : Go.Ss.In) (iy : Sc) (hform : formE i = 0) (hop : i.op = 23) (vs : List PV) (svs : List SV) (x : XS) (sA : List (List SV)) (hx : XOk x sA) (hvl : vs.length = i.args.length) (bt : Nat) (hE : Ers (bxN x.bs) vs svs) (hin : ∀ p ∈ vs, InP x.L p) (nf : Nat) (hwf : ∀ v ∈ svs, WfV nf sA.length v) (H : List Eng.Item) (S : List World) (s0 : World) (hs0 : s0 ∈ S) (w : World)
  (hc : Cls (blk bt 198 (cat pC vs) :: xI s0.heap.size bm x H) S w) :
  Calls Try.prog 141 [.pointer (some ⟨bm, 0, none⟩), .agg (inC i iy).toArray, .slice (some ⟨bt, 0, none⟩) vs.length vs.length].toArray w fun e w' =>
   ∃ v t x', e = .returned (.tuple #[.agg (pC v).toArray, .int .i64 t]) ∧ ExR (insP i.op i.n svs sA x.out) x x' vs bt v t ∧ Cls (blk bt 198 (cat pC vs) :: xI s0.heap.size bm x' H) S w' := by
 have hbs : ∃ s ∈ S, s0.heap.size ≤ s.heap.size := ⟨s0, hs0, Nat.le_refl _⟩
 obtain ⟨fa0, fa2, fa3, fa1, fa16, _⟩ := form_args hform
 obtain ⟨fn1, fn2⟩ := num_range hform
 obtain ⟨p0, p1, v0, v1, rfl, rfl, he0, he1⟩ := hE.two (by omega)
 have hin0 := hin p0 (by simp)
 have hin1 := hin p1 (by simp)
 unfold xI at hc ⊢
 refine enter Try.func141 rfl Try.ntmps141 rfl hc (zen ?_)
 unfold inC
 apply W.sr
 apply OL.box; rfl; rfl; exact CellsL.agg; (intro bk hbk; have hbk0 := hbk.mem s0 hs0)
 apply OL.alloc; rfl; rfl; exact CellsL.agg; (intro bk hbk; have hbk0 := hbk.mem s0 hs0)
 refine zgs ?_
 rename_i b4 hb4 hb40
 revert hbk0
 revert bk
 intro b6 hb6 hb60
 refine W.cnd ?_ ?_ <;> intro hq0 <;> try exact zwx hq0
 refine zgs ?_
 refine W.cnd ?_ ?_ <;> intro hq1 <;> try exact zwx hq1
 refine zgs ?_
 refine W.cnd ?_ ?_ <;> intro hq2 <;> try exact zwx hq2
 refine zgs ?_
 refine W.cnd ?_ ?_ <;> intro hq3 <;> try exact zwx hq3
 refine zgs ?_
 refine W.cnd ?_ ?_ <;> intro hq4 <;> try exact zwx hq4
 refine zgs ?_
 refine W.cnd ?_ ?_ <;> intro hq5 <;> try exact zwx hq5
 refine zgs ?_
 refine W.cnd ?_ ?_ <;> intro hq6 <;> try exact zwx hq6
 refine zgs ?_
 refine W.cnd ?_ ?_ <;> intro hq7 <;> try exact zwx hq7
 refine zgs ?_
 refine W.cnd ?_ ?_ <;> intro hq8 <;> try exact zwx hq8
 refine zgs ?_
 refine W.cnd ?_ ?_ <;> intro hq9 <;> try exact zwx hq9
 refine zgs ?_
 refine W.cnd ?_ ?_ <;> intro hq10 <;> try exact zwx hq10
 refine zgs ?_
 refine W.cnd ?_ ?_ <;> intro hq11 <;> try exact zwx hq11
 refine zgs ?_
 refine W.cnd ?_ ?_ <;> intro hq12 <;> try exact zwx hq12
 refine zgs ?_
 refine W.cnd ?_ ?_ <;> intro hq13 <;> try exact zwx hq13
 refine zgs ?_
 refine W.cnd ?_ ?_ <;> intro hq14 <;> try exact zwx hq14
 refine zgs ?_
 refine W.cnd ?_ ?_ <;> intro hq15 <;> try exact zwx hq15
 apply W.sk
 refine W.cnd ?_ ?_ <;> intro hq16 <;> try exact zwx hq16
 refine zgs ?_
 have hnoB : ∀ w2 : World, Cls H S w2 → True := fun _ _ => trivial
 by_cases hc : p0.k ≠ 4 ∨ p1.k ≠ 4 ∨ p0.l.length ≠ p1.l.length
 ·(((first | apply OL.op | apply QL.op); exact Guard.au; rfl; rfl); (exact Pev.call (v := .tuple #[.agg (pC zP).toArray, .int .i64 5]) rfl (by exact Args.au) (fun _ w2 hw2 => (vec_new i iy (fn2 hop) hop [p0, p1] (some ⟨bt, 0, none⟩) 2 p0 p1 rfl w2 (argsAt hw2 (.tail _ (.tail _ (.head _))) (.tail _ (.tail _ (.tail _ (.tail _ (.tail _ (.head _)))))) hin)).mono (fun e w3 h => ⟨by rcases h.2 with h | h; exact h.2; exact absurd hc h.1, hw2.ext h.1⟩))))
  refine zgs ?_
  exact At.finCT (b := b6) (cs := [.int .i64 0, .int .i64 0, .slice none 0 0, .pointer none]) rfl rfl (by exact mau) rfl rfl rfl (fun w' hw' => ⟨zP, 5, x, rfl, by rw [hop]; exact ex_23t he0 he1 hc, hw'.thin (.any (fun k hk => by rw [show k = b6 from hk]; exact hb6) (.any (fun k hk => by rw [show k = b4 from hk]; exact hb4) Thin.same))⟩)
 refine OL.callE (α := PV × (Nat → Prop)) (fun y => .tuple #[.agg (pC y.1).toArray, .int .i64 0]) (fun y => y.1.k = 4 ∧ y.1.n = 0 ∧ y.1.l = List.zipWith (fun x y => pw (binV i.n x.n y.n)) p0.l p1.l) (fun y => Cls (blk b6 198 [.int .i64 0, .int .i64 0, .slice none 0 0, .pointer none] :: blk b4 85 [.int .i64 i.to_, .int .i64 i.op, .int .i64 i.n, .slice iy.1 i.args.length iy.2] :: blk bt 198 (cat pC [p0, p1]) :: blk bm 160 x.m.c :: row s0.heap.size x.Oo x.m.qo x.m.no x.m.co 3 1 (ints x.out) :: pool (pvR pF) s0.heap.size y.2 (x.L ++ [(y.1, ())]) :: bag s0.heap.size (arI x.A) :: H) S) rfl rfl (by exact Args.au) (fun w2 hw2 => (vec_new i iy (fn2 hop) hop [p0, p1] (some ⟨bt, 0, none⟩) 2 p0 p1 rfl w2 (argsAt hw2 (.tail _ (.tail _ (.head _))) (.tail _ (.tail _ (.tail _ (.tail _ (.tail _ (.head _)))))) hin)).mono fun e w3 h => ?_) ?_
 ·obtain ⟨h1, h2⟩ := h
  rcases h2 with ⟨h2, _⟩ | ⟨_, v, h3, h4, h5, h6, h7⟩
  ·exact absurd h2 hc
  ·exact ⟨(v, fun k => x.Op k ∨ fresh w2 w3 k), h6, ⟨h3, h4, h5⟩, hw2.pool_push (.s (.s (.s (.s (.s .z))))) (hw2.kp s0 hs0).size h1 h7⟩
 rintro ⟨v, O'⟩ ⟨h3, h4, h5⟩
 refine zgs ?_
 exact At.finCT (b := b6) (cs := [.int .i64 v.k, .int .i64 v.n, .slice v.q v.l.length v.cap, .pointer (if v.k = 3 then some ⟨v.b, 0, none⟩ else none)]) rfl rfl (by exact mau) rfl rfl rfl (fun w' hw' => ⟨v, 0, { x with L := x.L ++ [(v, ())], Op := O' }, rfl, by rw [hop]; exact ex_23 hx he0 he1 (hwf v0 (by simp)) (hwf v1 (by simp)) hc h3 h4 h5, hw'.thin (.any (fun k hk => by rw [show k = b6 from hk]; exact hb6) (.any (fun k hk => by rw [show k = b4 from hk]; exact hb4) Thin.same))⟩)
end Go.Proofs.Ytehelljmaiophaa.ss

/- The walk of ssa's exec at effects. Conditions: none. -/
namespace Go.Eng
open Go.RowKit
theorem Cls.p23 {H : List Item} {S : List World} {w : World} {a b c d e : Item} (h : Cls (a :: b :: c :: d :: e :: H) S w) : Cls (c :: d :: e :: a :: b :: H) S w := h.perm (List.Perm.append_right H (List.perm_append_comm (l₁ := [a, b]) (l₂ := [c, d, e])))
theorem Cls.p32 {H : List Item} {S : List World} {w : World} {a b c d e : Item} (h : Cls (c :: d :: e :: a :: b :: H) S w) : Cls (a :: b :: c :: d :: e :: H) S w := h.perm (List.Perm.append_right H (List.perm_append_comm (l₁ := [c, d, e]) (l₂ := [a, b])))
theorem Cls.p22 {H : List Item} {S : List World} {w : World} {a b c d : Item} (h : Cls (a :: b :: c :: d :: H) S w) : Cls (c :: d :: a :: b :: H) S w := h.perm (List.Perm.append_right H (List.perm_append_comm (l₁ := [a, b]) (l₂ := [c, d])))
theorem Cls.p21 {H : List Item} {S : List World} {w : World} {a b c : Item} (h : Cls (a :: b :: c :: H) S w) : Cls (c :: a :: b :: H) S w := h.perm (List.Perm.append_right H (List.perm_append_comm (l₁ := [a, b]) (l₂ := [c])))
theorem Cls.p12 {H : List Item} {S : List World} {w : World} {a b c : Item} (h : Cls (c :: a :: b :: H) S w) : Cls (a :: b :: c :: H) S w := h.perm (List.Perm.append_right H (List.perm_append_comm (l₁ := [c]) (l₂ := [a, b])))
end Go.Eng
namespace Go.Proofs.Ytehelljmaiophaa.ss
set_option maxRecDepth 100000
open Go.Eng Go.RowKit Go.Ss
section
variable {B : Nat} {A : List AR} {j : Nat} {a : AR} {H : List Eng.Item} {S : List World} {w : World} {i1 i2 i3 i4 i5 i6 : Eng.Item}
theorem ar_open (hj : A[j]? = some a) (h : Cls (i1 :: i2 :: i3 :: i4 :: i5 :: i6 :: bag B (arI A) :: H) S w) : Cls (i3 :: blk a.bx 191 [.slice (some ⟨a.cb, 0, none⟩) a.xs.length a.xs.length] :: blk a.cb 198 (cat pC a.xs) :: bag B (arI (A.eraseIdx j)) :: i1 :: i2 :: i4 :: i5 :: i6 :: H) S w :=
 (ar_out hj (h.perm (List.perm_middle (l₁ := [i1, i2, i3, i4, i5, i6]) (l₂ := H)))).perm (List.perm_middle (l₁ := [_, _, _, i1, i2]) (l₂ := i4 :: i5 :: i6 :: H))
theorem ar_shut (hj : j < A.length) (hb : B ≤ a.bx) (hc : B ≤ a.cb) (h : Cls (i3 :: blk a.bx 191 [.slice (some ⟨a.cb, 0, none⟩) a.xs.length a.xs.length] :: blk a.cb 198 (cat pC a.xs) :: bag B (arI (A.eraseIdx j)) :: i1 :: i2 :: i4 :: i5 :: i6 :: H) S w) : Cls (i1 :: i2 :: i3 :: i4 :: i5 :: i6 :: bag B (arI (A.set j a)) :: H) S w := by
 have h1 := h.perm (List.perm_middle (l₁ := [_, _, _, i1, i2]) (l₂ := i4 :: i5 :: i6 :: H)).symm
 exact (ar_in (H := i1 :: i2 :: i3 :: i4 :: i5 :: i6 :: H) hj hb hc h1).perm (List.perm_middle (l₁ := [i1, i2, i3, i4, i5, i6]) (l₂ := H)).symm
theorem ar_lo6 (h : Cls (i1 :: i2 :: i3 :: i4 :: i5 :: i6 :: bag B (arI A) :: H) S w) : ∀ a ∈ A, B ≤ a.bx ∧ B ≤ a.cb := ar_lo (h.perm (List.perm_middle (l₁ := [i1, i2, i3, i4, i5, i6]) (l₂ := H)))
theorem ar_new {bx cb : Nat} {xs : List PV} (h : Cls (bag B [blk bx 191 [.slice (some ⟨cb, 0, none⟩) xs.length xs.length], blk cb 198 (cat pC xs)] :: bag B (arI A) :: H) S w) : Cls (bag B (arI (A ++ [⟨bx, cb, xs⟩])) :: H) S w := by
 obtain ⟨hb, _⟩ := h.holds _ (.head _)
 have h0 := (hb _ (.head _)).2
 have h1 := (hb _ (.tail _ (.head _))).2
 have g1 := (h.bag_out.perm (List.Perm.swap _ _ _)).bag_out
 have g2 : Cls (blk cb 198 (cat pC xs) :: blk bx 191 [.slice (some ⟨cb, 0, none⟩) xs.length xs.length] :: bag B (arI A) :: H) S w := g1.thin (.keep (.any (fun k hk => by obtain ⟨_, i, hi, _⟩ := hk; cases hi) Thin.same))
 have g3 := (g2.perm (((List.perm_append_comm (l₁ := [_]) (l₂ := [_, _])).append_right _)) : Cls (blk bx 191 [.slice (some ⟨cb, 0, none⟩) xs.length xs.length] :: bag B (arI A) :: blk cb 198 (cat pC xs) :: H) S w).bag_in h0
 have g4 := (g3.perm (List.Perm.swap _ _ _)).bag_in h1
 refine g4.bag_perm ?_
 rw [arI_snoc]
 refine (List.Perm.swap _ _ _).trans ?_
 exact List.perm_append_comm (l₁ := arIt ⟨bx, cb, xs⟩) (l₂ := arI A)
end
end Go.Proofs.Ytehelljmaiophaa.ss
namespace Go.Ss
open Go.Eng Go.RowKit Go.Proofs.Ytehelljmaiophaa.ss
section
variable {x : XS} {sA : List (List SV)} {op n t : Int} {p0 p1 p2 v : PV} {v0 v1 v2 : SV} {bt : Nat} {vs : List PV}
theorem XOk.arr (hx : XOk x sA) (he0 : Er (bxN x.bs) p0 v0) (hk : p0.k = 3) : ∃ a, x.A[v0.n.toNat]? = some a ∧ p0.b = a.bx ∧ Ers (bxN x.bs) a.xs (rowA sA v0) := by
 obtain ⟨_, h1⟩ := he0.box hk
 unfold XS.bs at h1
 rw [List.getElem?_map] at h1
 cases ha : x.A[v0.n.toNat]? with
 | none => rw [ha] at h1; cases h1
 | some a =>
  rw [ha] at h1
  obtain ⟨l, h2, h3⟩ := hx.ar _ a ha
  refine ⟨a, rfl, (Option.some.inj h1).symm, ?_⟩
  unfold rowA
  rw [List.getD_eq_getElem?_getD, h2]
  exact h3
theorem ex_15a (he0 : Er (bxN x.bs) p0 v0) (hk : p0.k ≠ 0) : ExR (insP 15 n [v0] sA x.out) x x vs bt zP 5 := by
 show ExR (if v0.k ≠ 0 then .trap 5 else if x.out.length = 1000 then .trap 6 else .ok zV sA (x.out ++ [v0.n]) 0) _ _ _ _ _ _
 rw [if_pos (by rw [← he0.k]; exact hk)]
 exact ⟨rfl, rfl⟩
theorem ex_15b (he0 : Er (bxN x.bs) p0 v0) (hk : p0.k = 0) (hl : x.out.length = 1000) : ExR (insP 15 n [v0] sA x.out) x x vs bt zP 6 := by
 show ExR (if v0.k ≠ 0 then .trap 5 else if x.out.length = 1000 then .trap 6 else .ok zV sA (x.out ++ [v0.n]) 0) _ _ _ _ _ _
 rw [if_neg (by rw [← he0.k]; omega), if_pos hl]
 exact ⟨rfl, rfl⟩
theorem ex_15c (hx : XOk x sA) (he0 : Er (bxN x.bs) p0 v0) (hk : p0.k = 0) (hl : x.out.length ≠ 1000) (O' : Nat → Prop) (q' : Option Addr) (c' : Nat) : ExR (insP 15 n [v0] sA x.out) x { x with m := { x.m with qo := q', no := x.m.no + 1, co := c' }, out := x.out ++ [p0.n], Oo := O' } vs bt zP 0 := by
 show ExR (if v0.k ≠ 0 then .trap 5 else if x.out.length = 1000 then .trap 6 else .ok zV sA (x.out ++ [v0.n]) 0) _ _ _ _ _ _
 rw [if_neg (by rw [← he0.k]; omega), if_neg hl, ← he0.num (by omega)]
 have := hx.ol
 refine ⟨rfl, .inr ⟨hx.l0, ⟨by simp [hx.no], by simp; omega, hx.al, hx.ar, hx.ai, hx.a1, hx.sh, hx.l0, hx.l6⟩, rfl, ⟨rfl, rfl, rfl, rfl, rfl, rfl, rfl, rfl, rfl, rfl⟩, by simp, bxN.z, ⟨[], by simp [XS.bs]⟩, fun _ h => h, .inl (.inl rfl)⟩⟩
theorem ex_18 (hx : XOk x sA) (he0 : Er (bxN x.bs) p0 v0) (he1 : Er (bxN x.bs) p1 v1) {t : Int} (h : ((p0.k ≠ 0 ∨ p1.k ≠ 0) ∧ t = 5) ∨ (p0.k = 0 ∧ p1.k = 0 ∧ (p0.n < 0 ∨ p1.n ≤ p0.n) ∧ t = 2) ∨ (p0.k = 0 ∧ p1.k = 0 ∧ ¬ (p0.n < 0 ∨ p1.n ≤ p0.n) ∧ t = 0)) : ExR (insP 18 n [v0, v1] sA x.out) x x vs bt zP t := by
 show ExR (if allK 0 [v0, v1] = false then .trap 5 else if v0.n < 0 ∨ v1.n ≤ v0.n then .trap 2 else .ok zV sA x.out 0) _ _ _ _ _ _
 have ha : allK 0 [v0, v1] = (decide (p0.k = 0) && decide (p1.k = 0)) := by rw [he0.k, he1.k]; simp [allK]
 rw [ha]
 rcases h with ⟨h, rfl⟩ | ⟨h0, h1, h2, rfl⟩ | ⟨h0, h1, h2, rfl⟩
 ·rw [if_pos (by simp; omega)]
  exact ⟨rfl, rfl⟩
 ·rw [if_neg (by simp [h0, h1]), ← he0.num (by omega), ← he1.num (by omega), if_pos h2]
  exact ⟨rfl, rfl⟩
 ·rw [if_neg (by simp [h0, h1]), ← he0.num (by omega), ← he1.num (by omega), if_neg h2]
  exact ExR.val hx bxN.z (.inl (.inl rfl))
theorem ex_17a (he0 : Er (bxN x.bs) p0 v0) (hk : p0.k ≠ 3) : ExR (insP 17 n [v0] sA x.out) x x vs bt zP 5 := by
 show ExR (if v0.k ≠ 3 then .trap 5 else .ok (wV (rowA sA v0).length) sA x.out 0) _ _ _ _ _ _
 rw [if_pos (by rw [← he0.k]; exact hk)]
 exact ⟨rfl, rfl⟩
theorem ex_17b (hx : XOk x sA) (he0 : Er (bxN x.bs) p0 v0) (hk : p0.k = 3) {l : List PV} (hl : Ers (bxN x.bs) l (rowA sA v0)) : ExR (insP 17 n [v0] sA x.out) x x vs bt (pw l.length) 0 := by
 show ExR (if v0.k ≠ 3 then .trap 5 else .ok (wV (rowA sA v0).length) sA x.out 0) _ _ _ _ _ _
 rw [if_neg (by rw [← he0.k]; omega), hl.len]
 exact ExR.val hx (erw _) (.inl (.inl rfl))
theorem ex_19a (he0 : Er (bxN x.bs) p0 v0) (he1 : Er (bxN x.bs) p1 v1) (hk : p0.k ≠ 3 ∨ p1.k ≠ 0) : ExR (insP 19 n [v0, v1] sA x.out) x x vs bt zP 5 := by
 show ExR (if v0.k ≠ 3 ∨ v1.k ≠ 0 then .trap 5 else if v1.n < 0 ∨ ((rowA sA v0).length : Int) ≤ v1.n then .trap 2 else .ok ((rowA sA v0).getD v1.n.toNat zV) sA x.out 0) _ _ _ _ _ _
 rw [if_pos (by rw [← he0.k, ← he1.k]; exact hk)]
 exact ⟨rfl, rfl⟩
theorem ex_19b (hx : XOk x sA) (he0 : Er (bxN x.bs) p0 v0) (he1 : Er (bxN x.bs) p1 v1) (hk : p0.k = 3) (hk1 : p1.k = 0) {l : List PV} (hl : Ers (bxN x.bs) l (rowA sA v0)) (hin : ∀ p ∈ l, InP x.L p) (h : ((p1.n < 0 ∨ (l.length : Int) ≤ p1.n) ∧ v = zP ∧ t = 2) ∨ (¬ (p1.n < 0 ∨ (l.length : Int) ≤ p1.n) ∧ v = l.getD p1.n.toNat zP ∧ t = 0)) : ExR (insP 19 n [v0, v1] sA x.out) x x vs bt v t := by
 show ExR (if v0.k ≠ 3 ∨ v1.k ≠ 0 then .trap 5 else if v1.n < 0 ∨ ((rowA sA v0).length : Int) ≤ v1.n then .trap 2 else .ok ((rowA sA v0).getD v1.n.toNat zV) sA x.out 0) _ _ _ _ _ _
 rw [if_neg (by rw [← he0.k, ← he1.k]; omega), ← hl.len, ← he1.num (by omega)]
 rcases h with ⟨h1, rfl, rfl⟩ | ⟨h1, rfl, rfl⟩
 ·rw [if_pos h1]
  exact ⟨rfl, rfl⟩
 ·rw [if_neg h1]
  refine ExR.val hx (hl.getD bxN.z _) (.inl ?_)
  rw [List.getD_eq_getElem?_getD]
  cases hi : l[p1.n.toNat]? with
  | none => exact .inl rfl
  | some c => exact hin c (List.mem_of_getElem? hi)
theorem ex_20a (he0 : Er (bxN x.bs) p0 v0) (he1 : Er (bxN x.bs) p1 v1) (hk : p0.k ≠ 3 ∨ p1.k ≠ 0) : ExR (insP 20 n [v0, v1, v2] sA x.out) x x vs bt zP 5 := by
 show ExR (if v0.k ≠ 3 ∨ v1.k ≠ 0 then .trap 5 else if v1.n < 0 ∨ ((rowA sA v0).length : Int) ≤ v1.n then .trap 2 else .ok zV (sA.set v0.n.toNat ((rowA sA v0).set v1.n.toNat v2)) x.out 0) _ _ _ _ _ _
 rw [if_pos (by rw [← he0.k, ← he1.k]; exact hk)]
 exact ⟨rfl, rfl⟩
theorem ex_20b (he0 : Er (bxN x.bs) p0 v0) (he1 : Er (bxN x.bs) p1 v1) (hk : p0.k = 3) (hk1 : p1.k = 0) {l : List PV} (hl : Ers (bxN x.bs) l (rowA sA v0)) (h : p1.n < 0 ∨ (l.length : Int) ≤ p1.n) : ExR (insP 20 n [v0, v1, v2] sA x.out) x x vs bt zP 2 := by
 show ExR (if v0.k ≠ 3 ∨ v1.k ≠ 0 then .trap 5 else if v1.n < 0 ∨ ((rowA sA v0).length : Int) ≤ v1.n then .trap 2 else .ok zV (sA.set v0.n.toNat ((rowA sA v0).set v1.n.toNat v2)) x.out 0) _ _ _ _ _ _
 rw [if_neg (by rw [← he0.k, ← he1.k]; omega), ← hl.len, ← he1.num (by omega), if_pos h]
 exact ⟨rfl, rfl⟩
theorem ex_20c (hx : XOk x sA) (he0 : Er (bxN x.bs) p0 v0) (he1 : Er (bxN x.bs) p1 v1) (he2 : Er (bxN x.bs) p2 v2) (hin2 : InP x.L p2) (hk : p0.k = 3) (hk1 : p1.k = 0) {a : AR} (ha : x.A[v0.n.toNat]? = some a) (hl : Ers (bxN x.bs) a.xs (rowA sA v0)) (h : ¬ (p1.n < 0 ∨ (a.xs.length : Int) ≤ p1.n)) : ExR (insP 20 n [v0, v1, v2] sA x.out) x { x with A := x.A.set v0.n.toNat ⟨a.bx, a.cb, a.xs.set p1.n.toNat p2⟩ } vs bt zP 0 := by
 show ExR (if v0.k ≠ 3 ∨ v1.k ≠ 0 then .trap 5 else if v1.n < 0 ∨ ((rowA sA v0).length : Int) ≤ v1.n then .trap 2 else .ok zV (sA.set v0.n.toNat ((rowA sA v0).set v1.n.toNat v2)) x.out 0) _ _ _ _ _ _
 rw [if_neg (by rw [← he0.k, ← he1.k]; omega), ← hl.len, ← he1.num (by omega), if_neg h]
 generalize v0.n.toNat = j at *
 have hj := (List.getElem?_eq_some_iff.1 ha).1
 have hbs : XS.bs { x with A := x.A.set j ⟨a.bx, a.cb, a.xs.set p1.n.toNat p2⟩ } = x.bs := by
  unfold XS.bs
  refine List.ext_getElem? fun i => ?_
  rw [List.getElem?_map, List.getElem?_map, List.getElem?_set]
  by_cases e : j = i
  ·subst e
   rw [if_pos rfl, if_pos hj, ha]; rfl
  ·rw [if_neg e]
 refine ⟨rfl, .inr ⟨hx.l0, ⟨hx.no, hx.ol, by simp [hx.al], fun i b hb => ?_, fun b hb p hp => ?_, fun b hb => ?_, hx.sh, hx.l0, hx.l6⟩, rfl, MSame.refl _, by simp, by rw [hbs]; exact bxN.z, ⟨[], by rw [hbs]; simp⟩, fun _ h => h, .inl (.inl rfl)⟩⟩
 ·rw [hbs]
  rw [List.getElem?_set] at hb
  rw [List.getElem?_set]
  by_cases e : j = i
  ·subst e
   rw [if_pos rfl, if_pos hj] at hb
   obtain rfl := Option.some.inj hb
   rw [if_pos rfl, if_pos (by rw [← hx.al]; exact hj)]
   exact ⟨_, rfl, hl.set he2⟩
  ·rw [if_neg e] at hb ⊢
   exact hx.ar i b hb
 ·rcases List.mem_or_eq_of_mem_set hb with hb | rfl
  ·exact hx.ai b hb p hp
  ·rcases List.mem_or_eq_of_mem_set hp with hp | rfl
   ·exact hx.ai a (List.mem_of_getElem? ha) p hp
   ·exact hin2
 ·rcases List.mem_or_eq_of_mem_set hb with hb | rfl
  ·exact hx.a1 b hb
  ·rw [List.length_set]
   exact hx.a1 a (List.mem_of_getElem? ha)
theorem ex_16a (he0 : Er (bxN x.bs) p0 v0) (hk : p0.k ≠ 0) : ExR (insP 16 n [v0, v1] sA x.out) x x vs bt zP 5 := by
 show ExR (if v0.k ≠ 0 then .trap 5 else if v0.n < 0 ∨ 1024 < v0.n then .trap 6 else .ok (.mk 3 sA.length []) (sA ++ [List.replicate v0.n.toNat v1]) x.out v0.n.toNat) _ _ _ _ _ _
 rw [if_pos (by rw [← he0.k]; exact hk)]
 exact ⟨rfl, rfl⟩
theorem ex_16b (he0 : Er (bxN x.bs) p0 v0) (hk : p0.k = 0) (h : p0.n < 0 ∨ 1024 < p0.n) : ExR (insP 16 n [v0, v1] sA x.out) x x vs bt zP 6 := by
 show ExR (if v0.k ≠ 0 then .trap 5 else if v0.n < 0 ∨ 1024 < v0.n then .trap 6 else .ok (.mk 3 sA.length []) (sA ++ [List.replicate v0.n.toNat v1]) x.out v0.n.toNat) _ _ _ _ _ _
 rw [if_neg (by rw [← he0.k]; omega), ← he0.num (by omega), if_pos h]
 exact ⟨rfl, rfl⟩
theorem ex_16c (he0 : Er (bxN x.bs) p0 v0) (hk : p0.k = 0) (h : 0 ≤ p0.n ∧ p0.n ≤ 1024) (hl : x.m.left < p0.n) : ExR (insP 16 n [v0, v1] sA x.out) x { x with m := { x.m with sh := true, ov := true } } vs bt zP 0 := by
 show ExR (if v0.k ≠ 0 then .trap 5 else if v0.n < 0 ∨ 1024 < v0.n then .trap 6 else .ok (.mk 3 sA.length []) (sA ++ [List.replicate v0.n.toNat v1]) x.out v0.n.toNat) _ _ _ _ _ _
 rw [if_neg (by rw [← he0.k]; omega), ← he0.num (by omega), if_neg (by omega)]
 exact ⟨rfl, .inl ⟨by omega, rfl, rfl⟩⟩
theorem ex_16d (hx : XOk x sA) (he0 : Er (bxN x.bs) p0 v0) (he1 : Er (bxN x.bs) p1 v1) (hin1 : InP x.L p1) (hk : p0.k = 0) (h : 0 ≤ p0.n ∧ p0.n ≤ 1024) (hl : p0.n ≤ x.m.left) (bx cb : Nat) : ExR (insP 16 n [v0, v1] sA x.out) x { x with m := { x.m with left := x.m.left - p0.n }, A := x.A ++ [⟨bx, cb, List.replicate p0.n.toNat p1⟩] } vs bt (.mk 3 0 none 0 bx []) 0 := by
 show ExR (if v0.k ≠ 0 then .trap 5 else if v0.n < 0 ∨ 1024 < v0.n then .trap 6 else .ok (.mk 3 sA.length []) (sA ++ [List.replicate v0.n.toNat v1]) x.out v0.n.toNat) _ _ _ _ _ _
 rw [if_neg (by rw [← he0.k]; omega), ← he0.num (by omega), if_neg (by omega)]
 have hbs : XS.bs { x with m := { x.m with left := x.m.left - p0.n }, A := x.A ++ [⟨bx, cb, List.replicate p0.n.toNat p1⟩] } = x.bs ++ [bx] := by simp [XS.bs]
 have hbl : x.bs.length = sA.length := by rw [← hx.al]; simp [XS.bs]
 have hl0 := hx.l0
 have hl6 := hx.l6
 refine ⟨rfl, .inr ⟨by omega, ⟨hx.no, hx.ol, by simp [hx.al], fun i b hb => ?_, fun b hb p hp => ?_, fun b hb => ?_, hx.sh, by simp only; omega, by simp only; omega⟩, rfl, ⟨rfl, rfl, rfl, rfl, rfl, rfl, rfl, rfl, rfl, rfl⟩, by simp only; omega, ?_, ⟨[bx], hbs⟩, fun _ h => h, .inl (.inl rfl)⟩⟩
 ·rw [hbs]
  by_cases e : i < x.A.length
  ·rw [List.getElem?_append_left e] at hb
   obtain ⟨l, h1, h2⟩ := hx.ar i b hb
   exact ⟨l, by rw [List.getElem?_append_left (by rw [← hx.al]; exact e)]; exact h1, h2.mono (bxN.more bx)⟩
  ·rw [List.getElem?_append_right (by omega)] at hb
   have hi := (List.getElem?_eq_some_iff.1 hb).1
   simp only [List.length_singleton] at hi
   have e2 : i - x.A.length = 0 := by omega
   rw [e2] at hb
   obtain rfl := Option.some.inj hb
   exact ⟨_, by rw [List.getElem?_append_right (by rw [← hx.al]; omega), ← hx.al, e2]; rfl, (Ers.replicate he1 _).mono (bxN.more bx)⟩
 ·rcases List.mem_append.1 hb with hb | hb
  ·exact hx.ai b hb p hp
  ·obtain rfl := List.mem_singleton.1 hb
   rw [List.eq_of_mem_replicate hp]
   exact hin1
 ·rcases List.mem_append.1 hb with hb | hb
  ·exact hx.a1 b hb
  ·obtain rfl := List.mem_singleton.1 hb
   simp only [List.length_replicate]
   omega
 ·rw [hbs]
  refine Er.of ?_ Ers.nil
  unfold bxN
  rw [if_pos rfl]
  exact ⟨by omega, by rw [Int.toNat_natCast, ← hbl]; simp⟩
end
end Go.Ss
namespace Go.Proofs.Ytehelljmaiophaa.ss
set_option maxRecDepth 100000
open Go.Eng Go.RowKit Go.Ss
theorem exec_15 (bm : Nat) (i : Go.Ss.In) (iy : Sc) (hform : formE i = 0) (hop : i.op = 15) (vs : List PV) (svs : List SV) (x : XS) (sA : List (List SV)) (hx : XOk x sA) (hvl : vs.length = i.args.length) (bt : Nat) (hE : Ers (bxN x.bs) vs svs) (hin : ∀ p ∈ vs, InP x.L p) (nf : Nat) (hwf : ∀ v ∈ svs, WfV nf sA.length v) (H : List Eng.Item) (S : List World) (s0 : World) (hs0 : s0 ∈ S) (w : World)
  (hc : Cls (blk bt 198 (cat pC vs) :: xI s0.heap.size bm x H) S w) :
  Calls Try.prog 141 [.pointer (some ⟨bm, 0, none⟩), .agg (inC i iy).toArray, .slice (some ⟨bt, 0, none⟩) vs.length vs.length].toArray w fun e w' =>
   ∃ v t x', e = .returned (.tuple #[.agg (pC v).toArray, .int .i64 t]) ∧ ExR (insP i.op i.n svs sA x.out) x x' vs bt v t ∧ Cls (blk bt 198 (cat pC vs) :: xI s0.heap.size bm x' H) S w' := by
 have hbs : ∃ s ∈ S, s0.heap.size ≤ s.heap.size := ⟨s0, hs0, Nat.le_refl _⟩
 obtain ⟨fa0, fa2, fa3, fa1, fa16, _⟩ := form_args hform
 obtain ⟨fn1, fn2⟩ := num_range hform
 obtain ⟨p0, v0, rfl, rfl, he0⟩ := hE.one (by omega)
 have hin0 := hin p0 (by simp)
 unfold xI at hc ⊢
 refine enter Try.func141 rfl Try.ntmps141 rfl hc (zen ?_)
 unfold inC
 apply W.sr
 apply OL.box; rfl; rfl; exact CellsL.agg; (intro bk hbk; have hbk0 := hbk.mem s0 hs0)
 apply OL.alloc; rfl; rfl; exact CellsL.agg; (intro bk hbk; have hbk0 := hbk.mem s0 hs0)
 refine zgs ?_
 rename_i b4 hb4 hb40
 revert hbk0
 revert bk
 intro b6 hb6 hb60
 refine W.cnd ?_ ?_ <;> intro hq0 <;> try exact zwx hq0
 refine zgs ?_
 refine W.cnd ?_ ?_ <;> intro hq1 <;> try exact zwx hq1
 refine zgs ?_
 refine W.cnd ?_ ?_ <;> intro hq2 <;> try exact zwx hq2
 refine zgs ?_
 refine W.cnd ?_ ?_ <;> intro hq3 <;> try exact zwx hq3
 refine zgs ?_
 refine W.cnd ?_ ?_ <;> intro hq4 <;> try exact zwx hq4
 refine zgs ?_
 refine W.cnd ?_ ?_ <;> intro hq5 <;> try exact zwx hq5
 refine zgs ?_
 refine W.cnd ?_ ?_ <;> intro hq6 <;> try exact zwx hq6
 refine zgs ?_
 refine W.cnd ?_ ?_ <;> intro hq7 <;> try exact zwx hq7
 refine zgs ?_
 refine W.cnd ?_ ?_ <;> intro hq8 <;> try exact zwx hq8
 refine zgs ?_
 refine W.cnd ?_ ?_ <;> intro hq9 <;> try exact zwx hq9
 refine zgs ?_
 refine W.cnd ?_ ?_ <;> intro hq10 <;> try exact zwx hq10
 refine zgs ?_
 refine W.cnd ?_ ?_ <;> intro hq11 <;> try exact zwx hq11
 refine zgs ?_
 refine W.cnd ?_ ?_ <;> intro hq12 <;> try exact zwx hq12
 refine zgs ?_
 refine W.cnd ?_ ?_ <;> intro hq13 <;> try exact zwx hq13
 refine zgs ?_
 refine W.cnd ?_ ?_ <;> intro hq14 <;> try exact zwx hq14
 refine zgs ?_
 refine W.cnd ?_ ?_ <;> intro hq15 <;> try exact zwx hq15
 refine zgs ?_
 refine W.cnd ?_ ?_ <;> intro hq16 <;> try exact zwx hq16
 refine zgs ?_
 refine W.cnd ?_ ?_ <;> intro hq17 <;> try exact zwx hq17
 refine zgs ?_
 by_cases hk : p0.k ≠ 0
 ·refine OL.callE (α := Unit) (fun _ => .tuple #[.agg (pC zP).toArray, .int .i64 5]) (fun _ => True) (fun _ => Cls (blk b6 198 [.int .i64 0, .int .i64 0, .slice none 0 0, .pointer none] :: blk b4 85 [.int .i64 i.to_, .int .i64 i.op, .int .i64 i.n, .slice iy.1 i.args.length iy.2] :: blk bt 198 (cat pC [p0]) :: blk bm 160 x.m.c :: row s0.heap.size x.Oo x.m.qo x.m.no x.m.co 3 1 (ints x.out) :: pool (pvR pF) s0.heap.size x.Op x.L :: bag s0.heap.size (arI x.A) :: H) S) rfl rfl (by exact Args.au) (fun w2 hw2 => (eff_print bm i iy hop p0 x.m x.Oo s0.heap.size x.out hx.no hx.ol bt _ S s0 hs0 hbs w2 hw2.p23).mono fun e w3 h => ⟨(), by rcases h with ⟨_, h1, h2⟩ | ⟨h1, _⟩ | ⟨h1, _⟩; exact ⟨h1, trivial, h2.p32⟩; exact absurd h1 hk; exact absurd h1 hk⟩) ?_
  intro _ _
  refine zgs ?_
  exact At.finCT (b := b6) (cs := [.int .i64 0, .int .i64 0, .slice none 0 0, .pointer none]) rfl rfl (by exact mau) rfl rfl rfl (fun w' hw' => ⟨zP, 5, x, rfl, by rw [hop]; exact ex_15a he0 hk, hw'.thin (.any (fun k hk => by rw [show k = b6 from hk]; exact hb6) (.any (fun k hk => by rw [show k = b4 from hk]; exact hb4) Thin.same))⟩)
 by_cases hl : x.out.length = 1000
 ·refine OL.callE (α := Unit) (fun _ => .tuple #[.agg (pC zP).toArray, .int .i64 6]) (fun _ => True) (fun _ => Cls (blk b6 198 [.int .i64 0, .int .i64 0, .slice none 0 0, .pointer none] :: blk b4 85 [.int .i64 i.to_, .int .i64 i.op, .int .i64 i.n, .slice iy.1 i.args.length iy.2] :: blk bt 198 (cat pC [p0]) :: blk bm 160 x.m.c :: row s0.heap.size x.Oo x.m.qo x.m.no x.m.co 3 1 (ints x.out) :: pool (pvR pF) s0.heap.size x.Op x.L :: bag s0.heap.size (arI x.A) :: H) S) rfl rfl (by exact Args.au) (fun w2 hw2 => (eff_print bm i iy hop p0 x.m x.Oo s0.heap.size x.out hx.no hx.ol bt _ S s0 hs0 hbs w2 hw2.p23).mono fun e w3 h => ⟨(), by rcases h with ⟨h1, _⟩ | ⟨_, _, h1, h2⟩ | ⟨_, h1, _⟩; exact absurd h1 hk; exact ⟨h1, trivial, h2.p32⟩; exact absurd hl h1⟩) ?_
  intro _ _
  refine zgs ?_
  exact At.finCT (b := b6) (cs := [.int .i64 0, .int .i64 0, .slice none 0 0, .pointer none]) rfl rfl (by exact mau) rfl rfl rfl (fun w' hw' => ⟨zP, 6, x, rfl, by rw [hop]; exact ex_15b he0 (by omega) hl, hw'.thin (.any (fun k hk => by rw [show k = b6 from hk]; exact hb6) (.any (fun k hk => by rw [show k = b4 from hk]; exact hb4) Thin.same))⟩)
 refine OL.callE (α := (Nat → Prop) × Option Addr × Nat) (fun _ => .tuple #[.agg (pC zP).toArray, .int .i64 0]) (fun _ => True) (fun y => Cls (blk b6 198 [.int .i64 0, .int .i64 0, .slice none 0 0, .pointer none] :: blk b4 85 [.int .i64 i.to_, .int .i64 i.op, .int .i64 i.n, .slice iy.1 i.args.length iy.2] :: blk bt 198 (cat pC [p0]) :: blk bm 160 { x.m with qo := y.2.1, no := x.m.no + 1, co := y.2.2 }.c :: row s0.heap.size y.1 y.2.1 (x.m.no + 1) y.2.2 3 1 (ints (x.out ++ [p0.n])) :: pool (pvR pF) s0.heap.size x.Op x.L :: bag s0.heap.size (arI x.A) :: H) S) rfl rfl (by exact Args.au) (fun w2 hw2 => (eff_print bm i iy hop p0 x.m x.Oo s0.heap.size x.out hx.no hx.ol bt _ S s0 hs0 hbs w2 hw2.p23).mono fun e w3 h => ?_) ?_
 ·rcases h with ⟨h, _⟩ | ⟨_, h, _⟩ | ⟨_, _, h1, O', q', c', h2⟩
  ·exact absurd h hk
  ·exact absurd h hl
  ·exact ⟨(O', q', c'), h1, trivial, h2.p32⟩
 rintro ⟨O', q', c'⟩ _
 refine zgs ?_
 exact At.finCT (b := b6) (cs := [.int .i64 0, .int .i64 0, .slice none 0 0, .pointer none]) rfl rfl (by exact mau) rfl rfl rfl (fun w' hw' => ⟨zP, 0, { x with m := { x.m with qo := q', no := x.m.no + 1, co := c' }, out := x.out ++ [p0.n], Oo := O' }, rfl, by rw [hop]; exact ex_15c hx he0 (by omega) hl O' q' c', hw'.thin (.any (fun k hk => by rw [show k = b6 from hk]; exact hb6) (.any (fun k hk => by rw [show k = b4 from hk]; exact hb4) Thin.same))⟩)
theorem exec_18 (bm : Nat) (i : Go.Ss.In) (iy : Sc) (hform : formE i = 0) (hop : i.op = 18) (vs : List PV) (svs : List SV) (x : XS) (sA : List (List SV)) (hx : XOk x sA) (hvl : vs.length = i.args.length) (bt : Nat) (hE : Ers (bxN x.bs) vs svs) (hin : ∀ p ∈ vs, InP x.L p) (nf : Nat) (hwf : ∀ v ∈ svs, WfV nf sA.length v) (H : List Eng.Item) (S : List World) (s0 : World) (hs0 : s0 ∈ S) (w : World)
  (hc : Cls (blk bt 198 (cat pC vs) :: xI s0.heap.size bm x H) S w) :
  Calls Try.prog 141 [.pointer (some ⟨bm, 0, none⟩), .agg (inC i iy).toArray, .slice (some ⟨bt, 0, none⟩) vs.length vs.length].toArray w fun e w' =>
   ∃ v t x', e = .returned (.tuple #[.agg (pC v).toArray, .int .i64 t]) ∧ ExR (insP i.op i.n svs sA x.out) x x' vs bt v t ∧ Cls (blk bt 198 (cat pC vs) :: xI s0.heap.size bm x' H) S w' := by
 have hbs : ∃ s ∈ S, s0.heap.size ≤ s.heap.size := ⟨s0, hs0, Nat.le_refl _⟩
 obtain ⟨fa0, fa2, fa3, fa1, fa16, _⟩ := form_args hform
 obtain ⟨fn1, fn2⟩ := num_range hform
 obtain ⟨p0, p1, v0, v1, rfl, rfl, he0, he1⟩ := hE.two (by omega)
 have hin0 := hin p0 (by simp)
 have hin1 := hin p1 (by simp)
 unfold xI at hc ⊢
 refine enter Try.func141 rfl Try.ntmps141 rfl hc (zen ?_)
 unfold inC
 apply W.sr
 apply OL.box; rfl; rfl; exact CellsL.agg; (intro bk hbk; have hbk0 := hbk.mem s0 hs0)
 apply OL.alloc; rfl; rfl; exact CellsL.agg; (intro bk hbk; have hbk0 := hbk.mem s0 hs0)
 refine zgs ?_
 rename_i b4 hb4 hb40
 revert hbk0
 revert bk
 intro b6 hb6 hb60
 refine W.cnd ?_ ?_ <;> intro hq0 <;> try exact zwx hq0
 refine zgs ?_
 refine W.cnd ?_ ?_ <;> intro hq1 <;> try exact zwx hq1
 refine zgs ?_
 refine W.cnd ?_ ?_ <;> intro hq2 <;> try exact zwx hq2
 refine zgs ?_
 refine W.cnd ?_ ?_ <;> intro hq3 <;> try exact zwx hq3
 refine zgs ?_
 refine W.cnd ?_ ?_ <;> intro hq4 <;> try exact zwx hq4
 refine zgs ?_
 refine W.cnd ?_ ?_ <;> intro hq5 <;> try exact zwx hq5
 refine zgs ?_
 refine W.cnd ?_ ?_ <;> intro hq6 <;> try exact zwx hq6
 refine zgs ?_
 refine W.cnd ?_ ?_ <;> intro hq7 <;> try exact zwx hq7
 refine zgs ?_
 refine W.cnd ?_ ?_ <;> intro hq8 <;> try exact zwx hq8
 refine zgs ?_
 refine W.cnd ?_ ?_ <;> intro hq9 <;> try exact zwx hq9
 refine zgs ?_
 refine W.cnd ?_ ?_ <;> intro hq10 <;> try exact zwx hq10
 refine zgs ?_
 refine W.cnd ?_ ?_ <;> intro hq11 <;> try exact zwx hq11
 refine zgs ?_
 refine W.cnd ?_ ?_ <;> intro hq12 <;> try exact zwx hq12
 refine zgs ?_
 refine W.cnd ?_ ?_ <;> intro hq13 <;> try exact zwx hq13
 refine zgs ?_
 refine W.cnd ?_ ?_ <;> intro hq14 <;> try exact zwx hq14
 refine zgs ?_
 refine W.cnd ?_ ?_ <;> intro hq15 <;> try exact zwx hq15
 refine zgs ?_
 refine W.cnd ?_ ?_ <;> intro hq16 <;> try exact zwx hq16
 refine zgs ?_
 refine W.cnd ?_ ?_ <;> intro hq17 <;> try exact zwx hq17
 refine zgs ?_
 by_cases hk : p0.k ≠ 0 ∨ p1.k ≠ 0
 ·refine OL.callE (α := Unit) (fun _ => .tuple #[.agg (pC zP).toArray, .int .i64 5]) (fun _ => True) (fun _ => Cls (blk b6 198 [.int .i64 0, .int .i64 0, .slice none 0 0, .pointer none] :: blk b4 85 [.int .i64 i.to_, .int .i64 i.op, .int .i64 i.n, .slice iy.1 i.args.length iy.2] :: blk bt 198 (cat pC [p0, p1]) :: blk bm 160 x.m.c :: row s0.heap.size x.Oo x.m.qo x.m.no x.m.co 3 1 (ints x.out) :: pool (pvR pF) s0.heap.size x.Op x.L :: bag s0.heap.size (arI x.A) :: H) S) rfl rfl (by exact Args.au) (fun w2 hw2 => (eff_check bm i iy hop p0 p1 bt _ S s0 hs0 (fun w3 hw3 p hp => PVO.mono (fun k hk => hw3.lt _ (.tail _ (.tail _ (.tail _ (.tail _ (.tail _ (.head _)))))) k hk) ((hin p hp).ok (hw3.item (.tail _ (.tail _ (.tail _ (.tail _ (.tail _ (.head _))))))))) w2 hw2.p21).mono fun e w3 h => ⟨(), by rcases h with ⟨h0, h1, h2⟩ | ⟨h0, h0', h0'', h1, h2⟩ | ⟨h0, h0', h0'', h1, h2⟩ <;> first | exact ⟨h1, trivial, h2.p12⟩ | (exfalso; omega)⟩) ?_
  intro _ _
  refine zgs ?_
  exact At.finCT (b := b6) (cs := [.int .i64 0, .int .i64 0, .slice none 0 0, .pointer none]) rfl rfl (by exact mau) rfl rfl rfl (fun w' hw' => ⟨zP, 5, x, rfl, by rw [hop]; exact ex_18 hx he0 he1 (.inl ⟨hk, rfl⟩), hw'.thin (.any (fun k hk => by rw [show k = b6 from hk]; exact hb6) (.any (fun k hk => by rw [show k = b4 from hk]; exact hb4) Thin.same))⟩)
 by_cases hl : p0.n < 0 ∨ p1.n ≤ p0.n
 ·refine OL.callE (α := Unit) (fun _ => .tuple #[.agg (pC zP).toArray, .int .i64 2]) (fun _ => True) (fun _ => Cls (blk b6 198 [.int .i64 0, .int .i64 0, .slice none 0 0, .pointer none] :: blk b4 85 [.int .i64 i.to_, .int .i64 i.op, .int .i64 i.n, .slice iy.1 i.args.length iy.2] :: blk bt 198 (cat pC [p0, p1]) :: blk bm 160 x.m.c :: row s0.heap.size x.Oo x.m.qo x.m.no x.m.co 3 1 (ints x.out) :: pool (pvR pF) s0.heap.size x.Op x.L :: bag s0.heap.size (arI x.A) :: H) S) rfl rfl (by exact Args.au) (fun w2 hw2 => (eff_check bm i iy hop p0 p1 bt _ S s0 hs0 (fun w3 hw3 p hp => PVO.mono (fun k hk => hw3.lt _ (.tail _ (.tail _ (.tail _ (.tail _ (.tail _ (.head _)))))) k hk) ((hin p hp).ok (hw3.item (.tail _ (.tail _ (.tail _ (.tail _ (.tail _ (.head _))))))))) w2 hw2.p21).mono fun e w3 h => ⟨(), by rcases h with ⟨h0, h1, h2⟩ | ⟨h0, h0', h0'', h1, h2⟩ | ⟨h0, h0', h0'', h1, h2⟩ <;> first | exact ⟨h1, trivial, h2.p12⟩ | (exfalso; omega)⟩) ?_
  intro _ _
  refine zgs ?_
  exact At.finCT (b := b6) (cs := [.int .i64 0, .int .i64 0, .slice none 0 0, .pointer none]) rfl rfl (by exact mau) rfl rfl rfl (fun w' hw' => ⟨zP, 2, x, rfl, by rw [hop]; exact ex_18 hx he0 he1 (.inr (.inl ⟨by omega, by omega, hl, rfl⟩)), hw'.thin (.any (fun k hk => by rw [show k = b6 from hk]; exact hb6) (.any (fun k hk => by rw [show k = b4 from hk]; exact hb4) Thin.same))⟩)
 ·refine OL.callE (α := Unit) (fun _ => .tuple #[.agg (pC zP).toArray, .int .i64 0]) (fun _ => True) (fun _ => Cls (blk b6 198 [.int .i64 0, .int .i64 0, .slice none 0 0, .pointer none] :: blk b4 85 [.int .i64 i.to_, .int .i64 i.op, .int .i64 i.n, .slice iy.1 i.args.length iy.2] :: blk bt 198 (cat pC [p0, p1]) :: blk bm 160 x.m.c :: row s0.heap.size x.Oo x.m.qo x.m.no x.m.co 3 1 (ints x.out) :: pool (pvR pF) s0.heap.size x.Op x.L :: bag s0.heap.size (arI x.A) :: H) S) rfl rfl (by exact Args.au) (fun w2 hw2 => (eff_check bm i iy hop p0 p1 bt _ S s0 hs0 (fun w3 hw3 p hp => PVO.mono (fun k hk => hw3.lt _ (.tail _ (.tail _ (.tail _ (.tail _ (.tail _ (.head _)))))) k hk) ((hin p hp).ok (hw3.item (.tail _ (.tail _ (.tail _ (.tail _ (.tail _ (.head _))))))))) w2 hw2.p21).mono fun e w3 h => ⟨(), by rcases h with ⟨h0, h1, h2⟩ | ⟨h0, h0', h0'', h1, h2⟩ | ⟨h0, h0', h0'', h1, h2⟩ <;> first | exact ⟨h1, trivial, h2.p12⟩ | (exfalso; omega)⟩) ?_
  intro _ _
  refine zgs ?_
  exact At.finCT (b := b6) (cs := [.int .i64 0, .int .i64 0, .slice none 0 0, .pointer none]) rfl rfl (by exact mau) rfl rfl rfl (fun w' hw' => ⟨zP, 0, x, rfl, by rw [hop]; exact ex_18 hx he0 he1 (.inr (.inr ⟨by omega, by omega, hl, rfl⟩)), hw'.thin (.any (fun k hk => by rw [show k = b6 from hk]; exact hb6) (.any (fun k hk => by rw [show k = b4 from hk]; exact hb4) Thin.same))⟩)
theorem exec_17 (bm : Nat) (i : Go.Ss.In) (iy : Sc) (hform : formE i = 0) (hop : i.op = 17) (vs : List PV) (svs : List SV) (x : XS) (sA : List (List SV)) (hx : XOk x sA) (hvl : vs.length = i.args.length) (bt : Nat) (hE : Ers (bxN x.bs) vs svs) (hin : ∀ p ∈ vs, InP x.L p) (nf : Nat) (hwf : ∀ v ∈ svs, WfV nf sA.length v) (H : List Eng.Item) (S : List World) (s0 : World) (hs0 : s0 ∈ S) (w : World)
  (hc : Cls (blk bt 198 (cat pC vs) :: xI s0.heap.size bm x H) S w) :
  Calls Try.prog 141 [.pointer (some ⟨bm, 0, none⟩), .agg (inC i iy).toArray, .slice (some ⟨bt, 0, none⟩) vs.length vs.length].toArray w fun e w' =>
   ∃ v t x', e = .returned (.tuple #[.agg (pC v).toArray, .int .i64 t]) ∧ ExR (insP i.op i.n svs sA x.out) x x' vs bt v t ∧ Cls (blk bt 198 (cat pC vs) :: xI s0.heap.size bm x' H) S w' := by
 have hbs : ∃ s ∈ S, s0.heap.size ≤ s.heap.size := ⟨s0, hs0, Nat.le_refl _⟩
 obtain ⟨fa0, fa2, fa3, fa1, fa16, _⟩ := form_args hform
 obtain ⟨fn1, fn2⟩ := num_range hform
 obtain ⟨p0, v0, rfl, rfl, he0⟩ := hE.one (by omega)
 have hin0 := hin p0 (by simp)
 unfold xI at hc ⊢
 refine enter Try.func141 rfl Try.ntmps141 rfl hc (zen ?_)
 unfold inC
 apply W.sr
 apply OL.box; rfl; rfl; exact CellsL.agg; (intro bk hbk; have hbk0 := hbk.mem s0 hs0)
 apply OL.alloc; rfl; rfl; exact CellsL.agg; (intro bk hbk; have hbk0 := hbk.mem s0 hs0)
 refine zgs ?_
 rename_i b4 hb4 hb40
 revert hbk0
 revert bk
 intro b6 hb6 hb60
 refine W.cnd ?_ ?_ <;> intro hq0 <;> try exact zwx hq0
 refine zgs ?_
 refine W.cnd ?_ ?_ <;> intro hq1 <;> try exact zwx hq1
 refine zgs ?_
 refine W.cnd ?_ ?_ <;> intro hq2 <;> try exact zwx hq2
 refine zgs ?_
 refine W.cnd ?_ ?_ <;> intro hq3 <;> try exact zwx hq3
 refine zgs ?_
 refine W.cnd ?_ ?_ <;> intro hq4 <;> try exact zwx hq4
 refine zgs ?_
 refine W.cnd ?_ ?_ <;> intro hq5 <;> try exact zwx hq5
 refine zgs ?_
 refine W.cnd ?_ ?_ <;> intro hq6 <;> try exact zwx hq6
 refine zgs ?_
 refine W.cnd ?_ ?_ <;> intro hq7 <;> try exact zwx hq7
 refine zgs ?_
 refine W.cnd ?_ ?_ <;> intro hq8 <;> try exact zwx hq8
 refine zgs ?_
 refine W.cnd ?_ ?_ <;> intro hq9 <;> try exact zwx hq9
 refine zgs ?_
 refine W.cnd ?_ ?_ <;> intro hq10 <;> try exact zwx hq10
 refine zgs ?_
 refine W.cnd ?_ ?_ <;> intro hq11 <;> try exact zwx hq11
 refine zgs ?_
 refine W.cnd ?_ ?_ <;> intro hq12 <;> try exact zwx hq12
 refine zgs ?_
 refine W.cnd ?_ ?_ <;> intro hq13 <;> try exact zwx hq13
 refine zgs ?_
 refine W.cnd ?_ ?_ <;> intro hq14 <;> try exact zwx hq14
 refine zgs ?_
 refine W.cnd ?_ ?_ <;> intro hq15 <;> try exact zwx hq15
 refine zgs ?_
 refine W.cnd ?_ ?_ <;> intro hq16 <;> try exact zwx hq16
 refine zgs ?_
 refine W.cnd ?_ ?_ <;> intro hq17 <;> try exact zwx hq17
 refine zgs ?_
 by_cases hk : p0.k ≠ 3
 ·refine OL.callE (α := Unit) (fun _ => .tuple #[.agg (pC zP).toArray, .int .i64 5]) (fun _ => True) (fun _ => Cls (blk b6 198 [.int .i64 0, .int .i64 0, .slice none 0 0, .pointer none] :: blk b4 85 [.int .i64 i.to_, .int .i64 i.op, .int .i64 i.n, .slice iy.1 i.args.length iy.2] :: blk bt 198 (cat pC [p0]) :: blk bm 160 x.m.c :: row s0.heap.size x.Oo x.m.qo x.m.no x.m.co 3 1 (ints x.out) :: pool (pvR pF) s0.heap.size x.Op x.L :: bag s0.heap.size (arI x.A) :: H) S) rfl rfl (by exact Args.au) (fun w2 hw2 => (eff_bad1 bm i iy hop p0 hk bt _ S s0 hs0 w2 hw2.p21).mono fun e w3 h => ⟨(), h.1, trivial, h.2.p12⟩) ?_
  intro _ _
  refine zgs ?_
  exact At.finCT (b := b6) (cs := [.int .i64 0, .int .i64 0, .slice none 0 0, .pointer none]) rfl rfl (by exact mau) rfl rfl rfl (fun w' hw' => ⟨zP, 5, x, rfl, by rw [hop]; exact ex_17a he0 hk, hw'.thin (.any (fun k hk => by rw [show k = b6 from hk]; exact hb6) (.any (fun k hk => by rw [show k = b4 from hk]; exact hb4) Thin.same))⟩)
 have hk3 : p0.k = 3 := by omega
 obtain ⟨a, ha, hba, hla⟩ := hx.arr he0 hk3
 have haj := (List.getElem?_eq_some_iff.1 ha).1
 have ha1 := hx.a1 a (List.mem_of_getElem? ha)
 refine OL.fact (fun w2 hw2 => ar_lo6 hw2 a (List.mem_of_getElem? ha)) (fun hlo => ?_)
 have hset : x.A.set v0.n.toNat a = x.A := List.ext_getElem? fun i => by
  rw [List.getElem?_set]
  by_cases e : v0.n.toNat = i
  ·rw [if_pos e, ← e, if_pos haj, ha]
  ·rw [if_neg e]
 refine OL.callE (α := Unit) (fun _ => .tuple #[.agg (pC (pw a.xs.length)).toArray, .int .i64 0]) (fun _ => True) (fun _ => Cls (blk b6 198 [.int .i64 0, .int .i64 0, .slice none 0 0, .pointer none] :: blk b4 85 [.int .i64 i.to_, .int .i64 i.op, .int .i64 i.n, .slice iy.1 i.args.length iy.2] :: blk bt 198 (cat pC [p0]) :: blk bm 160 x.m.c :: row s0.heap.size x.Oo x.m.qo x.m.no x.m.co 3 1 (ints x.out) :: pool (pvR pF) s0.heap.size x.Op x.L :: bag s0.heap.size (arI x.A) :: H) S) rfl rfl (by exact Args.au) (fun w2 hw2 => (eff_len bm i iy hop p0 a.bx a.cb a.xs ha1 hk3 hba bt _ S s0 hs0 w2 (ar_open ha hw2)).mono fun e w3 h => ⟨(), h.1, trivial, by have h2 := ar_shut haj hlo.1 hlo.2 h.2; rw [hset] at h2; exact h2⟩) ?_
 intro _ _
 refine zgs ?_
 exact At.finCT (b := b6) (cs := [.int .i64 0, .int .i64 a.xs.length, .slice none 0 0, .pointer none]) rfl rfl (by exact mau) rfl rfl rfl (fun w' hw' => ⟨pw a.xs.length, 0, x, rfl, by rw [hop]; exact ex_17b hx he0 hk3 hla, hw'.thin (.any (fun k hk => by rw [show k = b6 from hk]; exact hb6) (.any (fun k hk => by rw [show k = b4 from hk]; exact hb4) Thin.same))⟩)
theorem exec_19 (bm : Nat) (i : Go.Ss.In) (iy : Sc) (hform : formE i = 0) (hop : i.op = 19) (vs : List PV) (svs : List SV) (x : XS) (sA : List (List SV)) (hx : XOk x sA) (hvl : vs.length = i.args.length) (bt : Nat) (hE : Ers (bxN x.bs) vs svs) (hin : ∀ p ∈ vs, InP x.L p) (nf : Nat) (hwf : ∀ v ∈ svs, WfV nf sA.length v) (H : List Eng.Item) (S : List World) (s0 : World) (hs0 : s0 ∈ S) (w : World)
  (hc : Cls (blk bt 198 (cat pC vs) :: xI s0.heap.size bm x H) S w) :
  Calls Try.prog 141 [.pointer (some ⟨bm, 0, none⟩), .agg (inC i iy).toArray, .slice (some ⟨bt, 0, none⟩) vs.length vs.length].toArray w fun e w' =>
   ∃ v t x', e = .returned (.tuple #[.agg (pC v).toArray, .int .i64 t]) ∧ ExR (insP i.op i.n svs sA x.out) x x' vs bt v t ∧ Cls (blk bt 198 (cat pC vs) :: xI s0.heap.size bm x' H) S w' := by
 have hbs : ∃ s ∈ S, s0.heap.size ≤ s.heap.size := ⟨s0, hs0, Nat.le_refl _⟩
 obtain ⟨fa0, fa2, fa3, fa1, fa16, _⟩ := form_args hform
 obtain ⟨fn1, fn2⟩ := num_range hform
 obtain ⟨p0, p1, v0, v1, rfl, rfl, he0, he1⟩ := hE.two (by omega)
 have hin0 := hin p0 (by simp)
 have hin1 := hin p1 (by simp)
 unfold xI at hc ⊢
 refine enter Try.func141 rfl Try.ntmps141 rfl hc (zen ?_)
 unfold inC
 apply W.sr
 apply OL.box; rfl; rfl; exact CellsL.agg; (intro bk hbk; have hbk0 := hbk.mem s0 hs0)
 apply OL.alloc; rfl; rfl; exact CellsL.agg; (intro bk hbk; have hbk0 := hbk.mem s0 hs0)
 refine zgs ?_
 rename_i b4 hb4 hb40
 revert hbk0
 revert bk
 intro b6 hb6 hb60
 refine W.cnd ?_ ?_ <;> intro hq0 <;> try exact zwx hq0
 refine zgs ?_
 refine W.cnd ?_ ?_ <;> intro hq1 <;> try exact zwx hq1
 refine zgs ?_
 refine W.cnd ?_ ?_ <;> intro hq2 <;> try exact zwx hq2
 refine zgs ?_
 refine W.cnd ?_ ?_ <;> intro hq3 <;> try exact zwx hq3
 refine zgs ?_
 refine W.cnd ?_ ?_ <;> intro hq4 <;> try exact zwx hq4
 refine zgs ?_
 refine W.cnd ?_ ?_ <;> intro hq5 <;> try exact zwx hq5
 refine zgs ?_
 refine W.cnd ?_ ?_ <;> intro hq6 <;> try exact zwx hq6
 refine zgs ?_
 refine W.cnd ?_ ?_ <;> intro hq7 <;> try exact zwx hq7
 refine zgs ?_
 refine W.cnd ?_ ?_ <;> intro hq8 <;> try exact zwx hq8
 refine zgs ?_
 refine W.cnd ?_ ?_ <;> intro hq9 <;> try exact zwx hq9
 refine zgs ?_
 refine W.cnd ?_ ?_ <;> intro hq10 <;> try exact zwx hq10
 refine zgs ?_
 refine W.cnd ?_ ?_ <;> intro hq11 <;> try exact zwx hq11
 refine zgs ?_
 refine W.cnd ?_ ?_ <;> intro hq12 <;> try exact zwx hq12
 refine zgs ?_
 refine W.cnd ?_ ?_ <;> intro hq13 <;> try exact zwx hq13
 refine zgs ?_
 refine W.cnd ?_ ?_ <;> intro hq14 <;> try exact zwx hq14
 refine zgs ?_
 refine W.cnd ?_ ?_ <;> intro hq15 <;> try exact zwx hq15
 refine zgs ?_
 refine W.cnd ?_ ?_ <;> intro hq16 <;> try exact zwx hq16
 refine zgs ?_
 refine W.cnd ?_ ?_ <;> intro hq17 <;> try exact zwx hq17
 refine zgs ?_
 by_cases hk : p0.k ≠ 3 ∨ p1.k ≠ 0
 ·refine OL.callE (α := Unit) (fun _ => .tuple #[.agg (pC zP).toArray, .int .i64 5]) (fun _ => True) (fun _ => Cls (blk b6 198 [.int .i64 0, .int .i64 0, .slice none 0 0, .pointer none] :: blk b4 85 [.int .i64 i.to_, .int .i64 i.op, .int .i64 i.n, .slice iy.1 i.args.length iy.2] :: blk bt 198 (cat pC [p0, p1]) :: blk bm 160 x.m.c :: row s0.heap.size x.Oo x.m.qo x.m.no x.m.co 3 1 (ints x.out) :: pool (pvR pF) s0.heap.size x.Op x.L :: bag s0.heap.size (arI x.A) :: H) S) rfl rfl (by exact Args.au) (fun w2 hw2 => (eff_bad2 bm i iy hop p0 p1 hk bt _ S s0 hs0 w2 hw2.p21).mono fun e w3 h => ⟨(), h.1, trivial, h.2.p12⟩) ?_
  intro _ _
  refine zgs ?_
  exact At.finCT (b := b6) (cs := [.int .i64 0, .int .i64 0, .slice none 0 0, .pointer none]) rfl rfl (by exact mau) rfl rfl rfl (fun w' hw' => ⟨zP, 5, x, rfl, by rw [hop]; exact ex_19a he0 he1 hk, hw'.thin (.any (fun k hk => by rw [show k = b6 from hk]; exact hb6) (.any (fun k hk => by rw [show k = b4 from hk]; exact hb4) Thin.same))⟩)
 have hk3 : p0.k = 3 := by omega
 obtain ⟨a, ha, hba, hla⟩ := hx.arr he0 hk3
 have haj := (List.getElem?_eq_some_iff.1 ha).1
 have ha1 := hx.a1 a (List.mem_of_getElem? ha)
 refine OL.fact (fun w2 hw2 => ar_lo6 hw2 a (List.mem_of_getElem? ha)) (fun hlo => ?_)
 have hset : x.A.set v0.n.toNat a = x.A := List.ext_getElem? fun i => by
  rw [List.getElem?_set]
  by_cases e : v0.n.toNat = i
  ·rw [if_pos e, ← e, if_pos haj, ha]
  ·rw [if_neg e]
 by_cases hl : p1.n < 0 ∨ (a.xs.length : Int) ≤ p1.n
 ·refine OL.callE (α := Unit) (fun _ => .tuple #[.agg (pC zP).toArray, .int .i64 2]) (fun _ => True) (fun _ => Cls (blk b6 198 [.int .i64 0, .int .i64 0, .slice none 0 0, .pointer none] :: blk b4 85 [.int .i64 i.to_, .int .i64 i.op, .int .i64 i.n, .slice iy.1 i.args.length iy.2] :: blk bt 198 (cat pC [p0, p1]) :: blk bm 160 x.m.c :: row s0.heap.size x.Oo x.m.qo x.m.no x.m.co 3 1 (ints x.out) :: pool (pvR pF) s0.heap.size x.Op x.L :: bag s0.heap.size (arI x.A) :: H) S) rfl rfl (by exact Args.au) (fun w2 hw2 => (eff_get bm i iy hop p0 p1 (by omega) a.bx a.cb a.xs ha1 hk3 hba bt _ S s0 hs0 w2 (ar_open ha hw2)).mono fun e w3 h => ⟨(), by rcases h with ⟨h0, h1, h2⟩ | ⟨h0, h1, h2⟩; exact ⟨h1, trivial, by have h3 := ar_shut haj hlo.1 hlo.2 h2; rw [hset] at h3; exact h3⟩; exact absurd hl h0⟩) ?_
  intro _ _
  refine zgs ?_
  exact At.finCT (b := b6) (cs := [.int .i64 0, .int .i64 0, .slice none 0 0, .pointer none]) rfl rfl (by exact mau) rfl rfl rfl (fun w' hw' => ⟨zP, 2, x, rfl, by rw [hop]; exact ex_19b hx he0 he1 hk3 (by omega) hla (hx.ai a (List.mem_of_getElem? ha)) (.inl ⟨hl, rfl, rfl⟩), hw'.thin (.any (fun k hk => by rw [show k = b6 from hk]; exact hb6) (.any (fun k hk => by rw [show k = b4 from hk]; exact hb4) Thin.same))⟩)
 obtain ⟨v, hv⟩ : ∃ v, a.xs.getD p1.n.toNat zP = v := ⟨_, rfl⟩
 refine OL.callE (α := Unit) (fun _ => .tuple #[.agg (pC v).toArray, .int .i64 0]) (fun _ => True) (fun _ => Cls (blk b6 198 [.int .i64 0, .int .i64 0, .slice none 0 0, .pointer none] :: blk b4 85 [.int .i64 i.to_, .int .i64 i.op, .int .i64 i.n, .slice iy.1 i.args.length iy.2] :: blk bt 198 (cat pC [p0, p1]) :: blk bm 160 x.m.c :: row s0.heap.size x.Oo x.m.qo x.m.no x.m.co 3 1 (ints x.out) :: pool (pvR pF) s0.heap.size x.Op x.L :: bag s0.heap.size (arI x.A) :: H) S) rfl rfl (by exact Args.au) (fun w2 hw2 => (eff_get bm i iy hop p0 p1 (by omega) a.bx a.cb a.xs ha1 hk3 hba bt _ S s0 hs0 w2 (ar_open ha hw2)).mono fun e w3 h => ⟨(), by rcases h with ⟨h0, h1, h2⟩ | ⟨h0, h1, h2⟩; exact absurd h0 hl; exact ⟨by rw [h1, hv], trivial, by have h3 := ar_shut haj hlo.1 hlo.2 h2; rw [hset] at h3; exact h3⟩⟩) ?_
 intro _ _
 refine zgs ?_
 exact At.finCT (b := b6) (cs := [.int .i64 v.k, .int .i64 v.n, .slice v.q v.l.length v.cap, .pointer (if v.k = 3 then some ⟨v.b, 0, none⟩ else none)]) rfl rfl (by exact mau) rfl rfl rfl (fun w' hw' => ⟨v, 0, x, rfl, by rw [hop]; exact ex_19b hx he0 he1 hk3 (by omega) hla (hx.ai a (List.mem_of_getElem? ha)) (.inr ⟨hl, hv.symm, rfl⟩), hw'.thin (.any (fun k hk => by rw [show k = b6 from hk]; exact hb6) (.any (fun k hk => by rw [show k = b4 from hk]; exact hb4) Thin.same))⟩)
theorem exec_20 (bm : Nat) (i : Go.Ss.In) (iy : Sc) (hform : formE i = 0) (hop : i.op = 20) (vs : List PV) (svs : List SV) (x : XS) (sA : List (List SV)) (hx : XOk x sA) (hvl : vs.length = i.args.length) (bt : Nat) (hE : Ers (bxN x.bs) vs svs) (hin : ∀ p ∈ vs, InP x.L p) (nf : Nat) (hwf : ∀ v ∈ svs, WfV nf sA.length v) (H : List Eng.Item) (S : List World) (s0 : World) (hs0 : s0 ∈ S) (w : World)
  (hc : Cls (blk bt 198 (cat pC vs) :: xI s0.heap.size bm x H) S w) :
  Calls Try.prog 141 [.pointer (some ⟨bm, 0, none⟩), .agg (inC i iy).toArray, .slice (some ⟨bt, 0, none⟩) vs.length vs.length].toArray w fun e w' =>
   ∃ v t x', e = .returned (.tuple #[.agg (pC v).toArray, .int .i64 t]) ∧ ExR (insP i.op i.n svs sA x.out) x x' vs bt v t ∧ Cls (blk bt 198 (cat pC vs) :: xI s0.heap.size bm x' H) S w' := by
 have hbs : ∃ s ∈ S, s0.heap.size ≤ s.heap.size := ⟨s0, hs0, Nat.le_refl _⟩
 obtain ⟨fa0, fa2, fa3, fa1, fa16, _⟩ := form_args hform
 obtain ⟨fn1, fn2⟩ := num_range hform
 obtain ⟨p0, p1, p2, v0, v1, v2, rfl, rfl, he0, he1, he2⟩ := hE.three (by omega)
 have hin0 := hin p0 (by simp)
 have hin1 := hin p1 (by simp)
 have hin2 := hin p2 (by simp)
 unfold xI at hc ⊢
 refine enter Try.func141 rfl Try.ntmps141 rfl hc (zen ?_)
 unfold inC
 apply W.sr
 apply OL.box; rfl; rfl; exact CellsL.agg; (intro bk hbk; have hbk0 := hbk.mem s0 hs0)
 apply OL.alloc; rfl; rfl; exact CellsL.agg; (intro bk hbk; have hbk0 := hbk.mem s0 hs0)
 refine zgs ?_
 rename_i b4 hb4 hb40
 revert hbk0
 revert bk
 intro b6 hb6 hb60
 refine W.cnd ?_ ?_ <;> intro hq0 <;> try exact zwx hq0
 refine zgs ?_
 refine W.cnd ?_ ?_ <;> intro hq1 <;> try exact zwx hq1
 refine zgs ?_
 refine W.cnd ?_ ?_ <;> intro hq2 <;> try exact zwx hq2
 refine zgs ?_
 refine W.cnd ?_ ?_ <;> intro hq3 <;> try exact zwx hq3
 refine zgs ?_
 refine W.cnd ?_ ?_ <;> intro hq4 <;> try exact zwx hq4
 refine zgs ?_
 refine W.cnd ?_ ?_ <;> intro hq5 <;> try exact zwx hq5
 refine zgs ?_
 refine W.cnd ?_ ?_ <;> intro hq6 <;> try exact zwx hq6
 refine zgs ?_
 refine W.cnd ?_ ?_ <;> intro hq7 <;> try exact zwx hq7
 refine zgs ?_
 refine W.cnd ?_ ?_ <;> intro hq8 <;> try exact zwx hq8
 refine zgs ?_
 refine W.cnd ?_ ?_ <;> intro hq9 <;> try exact zwx hq9
 refine zgs ?_
 refine W.cnd ?_ ?_ <;> intro hq10 <;> try exact zwx hq10
 refine zgs ?_
 refine W.cnd ?_ ?_ <;> intro hq11 <;> try exact zwx hq11
 refine zgs ?_
 refine W.cnd ?_ ?_ <;> intro hq12 <;> try exact zwx hq12
 refine zgs ?_
 refine W.cnd ?_ ?_ <;> intro hq13 <;> try exact zwx hq13
 refine zgs ?_
 refine W.cnd ?_ ?_ <;> intro hq14 <;> try exact zwx hq14
 refine zgs ?_
 refine W.cnd ?_ ?_ <;> intro hq15 <;> try exact zwx hq15
 refine zgs ?_
 refine W.cnd ?_ ?_ <;> intro hq16 <;> try exact zwx hq16
 refine zgs ?_
 refine W.cnd ?_ ?_ <;> intro hq17 <;> try exact zwx hq17
 refine zgs ?_
 by_cases hk : p0.k ≠ 3 ∨ p1.k ≠ 0
 ·refine OL.callE (α := Unit) (fun _ => .tuple #[.agg (pC zP).toArray, .int .i64 5]) (fun _ => True) (fun _ => Cls (blk b6 198 [.int .i64 0, .int .i64 0, .slice none 0 0, .pointer none] :: blk b4 85 [.int .i64 i.to_, .int .i64 i.op, .int .i64 i.n, .slice iy.1 i.args.length iy.2] :: blk bt 198 (cat pC [p0, p1, p2]) :: blk bm 160 x.m.c :: row s0.heap.size x.Oo x.m.qo x.m.no x.m.co 3 1 (ints x.out) :: pool (pvR pF) s0.heap.size x.Op x.L :: bag s0.heap.size (arI x.A) :: H) S) rfl rfl (by exact Args.au) (fun w2 hw2 => (eff_bad3 bm i iy hop p0 p1 p2 hk bt _ S s0 hs0 w2 hw2.p21).mono fun e w3 h => ⟨(), h.1, trivial, h.2.p12⟩) ?_
  intro _ _
  refine zgs ?_
  exact At.finCT (b := b6) (cs := [.int .i64 0, .int .i64 0, .slice none 0 0, .pointer none]) rfl rfl (by exact mau) rfl rfl rfl (fun w' hw' => ⟨zP, 5, x, rfl, by rw [hop]; exact ex_20a he0 he1 hk, hw'.thin (.any (fun k hk => by rw [show k = b6 from hk]; exact hb6) (.any (fun k hk => by rw [show k = b4 from hk]; exact hb4) Thin.same))⟩)
 have hk3 : p0.k = 3 := by omega
 obtain ⟨a, ha, hba, hla⟩ := hx.arr he0 hk3
 have haj := (List.getElem?_eq_some_iff.1 ha).1
 have ha1 := hx.a1 a (List.mem_of_getElem? ha)
 refine OL.fact (fun w2 hw2 => ar_lo6 hw2 a (List.mem_of_getElem? ha)) (fun hlo => ?_)
 have hset : x.A.set v0.n.toNat a = x.A := List.ext_getElem? fun i => by
  rw [List.getElem?_set]
  by_cases e : v0.n.toNat = i
  ·rw [if_pos e, ← e, if_pos haj, ha]
  ·rw [if_neg e]
 by_cases hl : p1.n < 0 ∨ (a.xs.length : Int) ≤ p1.n
 ·refine OL.callE (α := Unit) (fun _ => .tuple #[.agg (pC zP).toArray, .int .i64 2]) (fun _ => True) (fun _ => Cls (blk b6 198 [.int .i64 0, .int .i64 0, .slice none 0 0, .pointer none] :: blk b4 85 [.int .i64 i.to_, .int .i64 i.op, .int .i64 i.n, .slice iy.1 i.args.length iy.2] :: blk bt 198 (cat pC [p0, p1, p2]) :: blk bm 160 x.m.c :: row s0.heap.size x.Oo x.m.qo x.m.no x.m.co 3 1 (ints x.out) :: pool (pvR pF) s0.heap.size x.Op x.L :: bag s0.heap.size (arI x.A) :: H) S) rfl rfl (by exact Args.au) (fun w2 hw2 => (eff_set bm i iy hop p0 p1 p2 (by omega) a.bx a.cb a.xs ha1 hk3 hba bt _ S s0 hs0 w2 (ar_open ha hw2)).mono fun e w3 h => ⟨(), by rcases h with ⟨h0, h1, h2⟩ | ⟨h0, h1, h2⟩; exact ⟨h1, trivial, by have h3 := ar_shut haj hlo.1 hlo.2 h2; rw [hset] at h3; exact h3⟩; exact absurd hl h0⟩) ?_
  intro _ _
  refine zgs ?_
  exact At.finCT (b := b6) (cs := [.int .i64 0, .int .i64 0, .slice none 0 0, .pointer none]) rfl rfl (by exact mau) rfl rfl rfl (fun w' hw' => ⟨zP, 2, x, rfl, by rw [hop]; exact ex_20b he0 he1 hk3 (by omega) hla hl, hw'.thin (.any (fun k hk => by rw [show k = b6 from hk]; exact hb6) (.any (fun k hk => by rw [show k = b4 from hk]; exact hb4) Thin.same))⟩)
 refine OL.callE (α := Unit) (fun _ => .tuple #[.agg (pC zP).toArray, .int .i64 0]) (fun _ => True) (fun _ => Cls (blk b6 198 [.int .i64 0, .int .i64 0, .slice none 0 0, .pointer none] :: blk b4 85 [.int .i64 i.to_, .int .i64 i.op, .int .i64 i.n, .slice iy.1 i.args.length iy.2] :: blk bt 198 (cat pC [p0, p1, p2]) :: blk bm 160 x.m.c :: row s0.heap.size x.Oo x.m.qo x.m.no x.m.co 3 1 (ints x.out) :: pool (pvR pF) s0.heap.size x.Op x.L :: bag s0.heap.size (arI (x.A.set v0.n.toNat ⟨a.bx, a.cb, a.xs.set p1.n.toNat p2⟩)) :: H) S) rfl rfl (by exact Args.au) (fun w2 hw2 => (eff_set bm i iy hop p0 p1 p2 (by omega) a.bx a.cb a.xs ha1 hk3 hba bt _ S s0 hs0 w2 (ar_open ha hw2)).mono fun e w3 h => ⟨(), by rcases h with ⟨h0, h1, h2⟩ | ⟨h0, h1, h2⟩; exact absurd h0 hl; exact ⟨h1, trivial, by have h3 := ar_shut (a := ⟨a.bx, a.cb, a.xs.set p1.n.toNat p2⟩) haj hlo.1 hlo.2 (by simp only [List.length_set]; exact h2); exact h3⟩⟩) ?_
 intro _ _
 refine zgs ?_
 exact At.finCT (b := b6) (cs := [.int .i64 0, .int .i64 0, .slice none 0 0, .pointer none]) rfl rfl (by exact mau) rfl rfl rfl (fun w' hw' => ⟨zP, 0, { x with A := x.A.set v0.n.toNat ⟨a.bx, a.cb, a.xs.set p1.n.toNat p2⟩ }, rfl, by rw [hop]; exact ex_20c hx he0 he1 he2 hin2 hk3 (by omega) ha hla hl, hw'.thin (.any (fun k hk => by rw [show k = b6 from hk]; exact hb6) (.any (fun k hk => by rw [show k = b4 from hk]; exact hb4) Thin.same))⟩)
theorem exec_16 (bm : Nat) (i : Go.Ss.In) (iy : Sc) (hform : formE i = 0) (hop : i.op = 16) (vs : List PV) (svs : List SV) (x : XS) (sA : List (List SV)) (hx : XOk x sA) (hvl : vs.length = i.args.length) (bt : Nat) (hE : Ers (bxN x.bs) vs svs) (hin : ∀ p ∈ vs, InP x.L p) (nf : Nat) (hwf : ∀ v ∈ svs, WfV nf sA.length v) (H : List Eng.Item) (S : List World) (s0 : World) (hs0 : s0 ∈ S) (w : World)
  (hc : Cls (blk bt 198 (cat pC vs) :: xI s0.heap.size bm x H) S w) :
  Calls Try.prog 141 [.pointer (some ⟨bm, 0, none⟩), .agg (inC i iy).toArray, .slice (some ⟨bt, 0, none⟩) vs.length vs.length].toArray w fun e w' =>
   ∃ v t x', e = .returned (.tuple #[.agg (pC v).toArray, .int .i64 t]) ∧ ExR (insP i.op i.n svs sA x.out) x x' vs bt v t ∧ Cls (blk bt 198 (cat pC vs) :: xI s0.heap.size bm x' H) S w' := by
 have hbs : ∃ s ∈ S, s0.heap.size ≤ s.heap.size := ⟨s0, hs0, Nat.le_refl _⟩
 obtain ⟨fa0, fa2, fa3, fa1, fa16, _⟩ := form_args hform
 obtain ⟨fn1, fn2⟩ := num_range hform
 obtain ⟨p0, p1, v0, v1, rfl, rfl, he0, he1⟩ := hE.two (by omega)
 have hin0 := hin p0 (by simp)
 have hin1 := hin p1 (by simp)
 unfold xI at hc ⊢
 refine enter Try.func141 rfl Try.ntmps141 rfl hc (zen ?_)
 unfold inC
 apply W.sr
 apply OL.box; rfl; rfl; exact CellsL.agg; (intro bk hbk; have hbk0 := hbk.mem s0 hs0)
 apply OL.alloc; rfl; rfl; exact CellsL.agg; (intro bk hbk; have hbk0 := hbk.mem s0 hs0)
 refine zgs ?_
 rename_i b4 hb4 hb40
 revert hbk0
 revert bk
 intro b6 hb6 hb60
 refine W.cnd ?_ ?_ <;> intro hq0 <;> try exact zwx hq0
 refine zgs ?_
 refine W.cnd ?_ ?_ <;> intro hq1 <;> try exact zwx hq1
 refine zgs ?_
 refine W.cnd ?_ ?_ <;> intro hq2 <;> try exact zwx hq2
 refine zgs ?_
 refine W.cnd ?_ ?_ <;> intro hq3 <;> try exact zwx hq3
 refine zgs ?_
 refine W.cnd ?_ ?_ <;> intro hq4 <;> try exact zwx hq4
 refine zgs ?_
 refine W.cnd ?_ ?_ <;> intro hq5 <;> try exact zwx hq5
 refine zgs ?_
 refine W.cnd ?_ ?_ <;> intro hq6 <;> try exact zwx hq6
 refine zgs ?_
 refine W.cnd ?_ ?_ <;> intro hq7 <;> try exact zwx hq7
 refine zgs ?_
 refine W.cnd ?_ ?_ <;> intro hq8 <;> try exact zwx hq8
 refine zgs ?_
 refine W.cnd ?_ ?_ <;> intro hq9 <;> try exact zwx hq9
 refine zgs ?_
 refine W.cnd ?_ ?_ <;> intro hq10 <;> try exact zwx hq10
 refine zgs ?_
 refine W.cnd ?_ ?_ <;> intro hq11 <;> try exact zwx hq11
 refine zgs ?_
 refine W.cnd ?_ ?_ <;> intro hq12 <;> try exact zwx hq12
 refine zgs ?_
 refine W.cnd ?_ ?_ <;> intro hq13 <;> try exact zwx hq13
 refine zgs ?_
 refine W.cnd ?_ ?_ <;> intro hq14 <;> try exact zwx hq14
 refine zgs ?_
 refine W.cnd ?_ ?_ <;> intro hq15 <;> try exact zwx hq15
 refine zgs ?_
 refine W.cnd ?_ ?_ <;> intro hq16 <;> try exact zwx hq16
 refine zgs ?_
 refine W.cnd ?_ ?_ <;> intro hq17 <;> try exact zwx hq17
 refine zgs ?_
 by_cases hk : p0.k ≠ 0
 ·refine OL.callE (α := Unit) (fun _ => .tuple #[.agg (pC zP).toArray, .int .i64 5]) (fun _ => True) (fun _ => Cls (blk b6 198 [.int .i64 0, .int .i64 0, .slice none 0 0, .pointer none] :: blk b4 85 [.int .i64 i.to_, .int .i64 i.op, .int .i64 i.n, .slice iy.1 i.args.length iy.2] :: blk bt 198 (cat pC [p0, p1]) :: blk bm 160 x.m.c :: row s0.heap.size x.Oo x.m.qo x.m.no x.m.co 3 1 (ints x.out) :: pool (pvR pF) s0.heap.size x.Op x.L :: bag s0.heap.size (arI x.A) :: H) S) rfl rfl (by exact Args.au) (fun w2 hw2 => (eff_new bm i iy hop p0 p1 x.m s0.heap.size hx.sh hx.l0 hx.l6 bt _ S s0 hs0 hbs w2 hw2.p22).mono fun e w3 ⟨v, t, m', it, h1, h2, h3⟩ => ?_) ?_
  ·rcases h2 with ⟨g0, rfl, rfl, rfl, rfl⟩ | ⟨g0, g1, rfl, rfl, rfl, rfl⟩ | ⟨g0, g1, g2, rfl, rfl, rfl, rfl⟩ | ⟨g0, g1, g2, bx, cb, _, _, _, _⟩ <;> first | (exfalso; omega) | exact ⟨(), h1, trivial, h3.nothing_out.p22⟩
  intro _ _
  refine zgs ?_
  exact At.finCT (b := b6) (cs := [.int .i64 0, .int .i64 0, .slice none 0 0, .pointer none]) rfl rfl (by exact mau) rfl rfl rfl (fun w' hw' => ⟨zP, 5, x, rfl, by rw [hop]; exact ex_16a he0 hk, hw'.thin (.any (fun k hk => by rw [show k = b6 from hk]; exact hb6) (.any (fun k hk => by rw [show k = b4 from hk]; exact hb4) Thin.same))⟩)
 by_cases hl : p0.n < 0 ∨ 1024 < p0.n
 ·refine OL.callE (α := Unit) (fun _ => .tuple #[.agg (pC zP).toArray, .int .i64 6]) (fun _ => True) (fun _ => Cls (blk b6 198 [.int .i64 0, .int .i64 0, .slice none 0 0, .pointer none] :: blk b4 85 [.int .i64 i.to_, .int .i64 i.op, .int .i64 i.n, .slice iy.1 i.args.length iy.2] :: blk bt 198 (cat pC [p0, p1]) :: blk bm 160 x.m.c :: row s0.heap.size x.Oo x.m.qo x.m.no x.m.co 3 1 (ints x.out) :: pool (pvR pF) s0.heap.size x.Op x.L :: bag s0.heap.size (arI x.A) :: H) S) rfl rfl (by exact Args.au) (fun w2 hw2 => (eff_new bm i iy hop p0 p1 x.m s0.heap.size hx.sh hx.l0 hx.l6 bt _ S s0 hs0 hbs w2 hw2.p22).mono fun e w3 ⟨v, t, m', it, h1, h2, h3⟩ => ?_) ?_
  ·rcases h2 with ⟨g0, rfl, rfl, rfl, rfl⟩ | ⟨g0, g1, rfl, rfl, rfl, rfl⟩ | ⟨g0, g1, g2, rfl, rfl, rfl, rfl⟩ | ⟨g0, g1, g2, bx, cb, _, _, _, _⟩ <;> first | (exfalso; omega) | exact ⟨(), h1, trivial, h3.nothing_out.p22⟩
  intro _ _
  refine zgs ?_
  exact At.finCT (b := b6) (cs := [.int .i64 0, .int .i64 0, .slice none 0 0, .pointer none]) rfl rfl (by exact mau) rfl rfl rfl (fun w' hw' => ⟨zP, 6, x, rfl, by rw [hop]; exact ex_16b he0 (by omega) hl, hw'.thin (.any (fun k hk => by rw [show k = b6 from hk]; exact hb6) (.any (fun k hk => by rw [show k = b4 from hk]; exact hb4) Thin.same))⟩)
 by_cases hs : x.m.left < p0.n
 ·refine OL.callE (α := Unit) (fun _ => .tuple #[.agg (pC zP).toArray, .int .i64 0]) (fun _ => True) (fun _ => Cls (blk b6 198 [.int .i64 0, .int .i64 0, .slice none 0 0, .pointer none] :: blk b4 85 [.int .i64 i.to_, .int .i64 i.op, .int .i64 i.n, .slice iy.1 i.args.length iy.2] :: blk bt 198 (cat pC [p0, p1]) :: blk bm 160 { x.m with sh := true, ov := true }.c :: row s0.heap.size x.Oo x.m.qo x.m.no x.m.co 3 1 (ints x.out) :: pool (pvR pF) s0.heap.size x.Op x.L :: bag s0.heap.size (arI x.A) :: H) S) rfl rfl (by exact Args.au) (fun w2 hw2 => (eff_new bm i iy hop p0 p1 x.m s0.heap.size hx.sh hx.l0 hx.l6 bt _ S s0 hs0 hbs w2 hw2.p22).mono fun e w3 ⟨v, t, m', it, h1, h2, h3⟩ => ?_) ?_
  ·rcases h2 with ⟨g0, rfl, rfl, rfl, rfl⟩ | ⟨g0, g1, rfl, rfl, rfl, rfl⟩ | ⟨g0, g1, g2, rfl, rfl, rfl, rfl⟩ | ⟨g0, g1, g2, bx, cb, _, _, _, _⟩ <;> first | (exfalso; omega) | exact ⟨(), h1, trivial, h3.nothing_out.p22⟩
  intro _ _
  refine zgs ?_
  exact At.finCT (b := b6) (cs := [.int .i64 0, .int .i64 0, .slice none 0 0, .pointer none]) rfl rfl (by exact mau) rfl rfl rfl (fun w' hw' => ⟨zP, 0, { x with m := { x.m with sh := true, ov := true } }, rfl, by rw [hop]; exact ex_16c he0 (by omega) (by omega) hs, hw'.thin (.any (fun k hk => by rw [show k = b6 from hk]; exact hb6) (.any (fun k hk => by rw [show k = b4 from hk]; exact hb4) Thin.same))⟩)
 refine OL.callE (α := Nat × Nat) (fun y => .tuple #[.agg (pC (.mk 3 0 none 0 y.1 [])).toArray, .int .i64 0]) (fun _ => True) (fun y => Cls (blk b6 198 [.int .i64 0, .int .i64 0, .slice none 0 0, .pointer none] :: blk b4 85 [.int .i64 i.to_, .int .i64 i.op, .int .i64 i.n, .slice iy.1 i.args.length iy.2] :: blk bt 198 (cat pC [p0, p1]) :: blk bm 160 { x.m with left := x.m.left - p0.n }.c :: row s0.heap.size x.Oo x.m.qo x.m.no x.m.co 3 1 (ints x.out) :: pool (pvR pF) s0.heap.size x.Op x.L :: bag s0.heap.size (arI (x.A ++ [⟨y.1, y.2, List.replicate p0.n.toNat p1⟩])) :: H) S) rfl rfl (by exact Args.au) (fun w2 hw2 => (eff_new bm i iy hop p0 p1 x.m s0.heap.size hx.sh hx.l0 hx.l6 bt _ S s0 hs0 hbs w2 hw2.p22).mono fun e w3 ⟨v, t, m', it, h1, h2, h3⟩ => ?_) ?_
 ·rcases h2 with ⟨g0, _, _, _, _⟩ | ⟨g0, g1, _, _, _, _⟩ | ⟨g0, g1, g2, _, _, _, _⟩ | ⟨g0, g1, g2, bx, cb, rfl, rfl, rfl, rfl⟩
  ·exact absurd g0 hk
  ·exact absurd g1 hl
  ·exact absurd g2 hs
  ·have h4 := ar_new (xs := List.replicate p0.n.toNat p1) (by simp only [List.length_replicate]; exact h3.perm (.cons _ (List.perm_middle (l₁ := [_, _, _, _, _, _]) (l₂ := H))))
   exact ⟨(bx, cb), h1, trivial, (h4.perm (List.perm_middle (l₁ := [_, _, _, _, _, _]) (l₂ := H)).symm).p22⟩
 rintro ⟨bx, cb⟩ _
 refine zgs ?_
 exact At.finCT (b := b6) (cs := [.int .i64 3, .int .i64 0, .slice none 0 0, .pointer (some ⟨bx, 0, none⟩)]) rfl rfl (by exact mau) rfl rfl rfl (fun w' hw' => ⟨.mk 3 0 none 0 bx [], 0, { x with m := { x.m with left := x.m.left - p0.n }, A := x.A ++ [⟨bx, cb, List.replicate p0.n.toNat p1⟩] }, rfl, by rw [hop]; exact ex_16d hx he0 he1 hin1 (by omega) (by omega) (by omega) bx cb, hw'.thin (.any (fun k hk => by rw [show k = b6 from hk]; exact hb6) (.any (fun k hk => by rw [show k = b4 from hk]; exact hb4) Thin.same))⟩)
end Go.Proofs.Ytehelljmaiophaa.ss

/- The walk of ssa's machine at the end of a block. Conditions: none. -/
namespace Go.Eng
open Go.RowKit
theorem Cls.q8 {H : List Item} {S : List World} {w : World} {a b c d e f g i : Item} (h : Cls (a :: b :: c :: d :: e :: f :: g :: i :: H) S w) : Cls (c :: e :: f :: g :: i :: a :: b :: d :: H) S w := by
 have h1 : Cls (c :: a :: b :: d :: e :: f :: g :: i :: H) S w := h.p21
 exact h1.perm (.cons _ (List.Perm.append_right H (List.perm_append_comm (l₁ := [a, b, d]) (l₂ := [e, f, g, i]))))
theorem Cls.q8' {H : List Item} {S : List World} {w : World} {a b c d e f g i : Item} (h : Cls (c :: e :: f :: g :: i :: a :: b :: d :: H) S w) : Cls (a :: b :: c :: d :: e :: f :: g :: i :: H) S w := by
 have h1 : Cls (c :: a :: b :: d :: e :: f :: g :: i :: H) S w := h.perm (.cons _ (List.Perm.append_right H (List.perm_append_comm (l₁ := [e, f, g, i]) (l₂ := [a, b, d]))))
 exact h1.p12
theorem Cls.q6 {H : List Item} {S : List World} {w : World} {a b c d e f : Item} (h : Cls (a :: b :: c :: d :: e :: f :: H) S w) : Cls (e :: f :: a :: b :: c :: d :: H) S w := h.perm (List.Perm.append_right H (List.perm_append_comm (l₁ := [a, b, c, d]) (l₂ := [e, f])))
theorem Cls.q6' {H : List Item} {S : List World} {w : World} {a b c d e f : Item} (h : Cls (e :: f :: a :: b :: c :: d :: H) S w) : Cls (a :: b :: c :: d :: e :: f :: H) S w := h.perm (List.Perm.append_right H (List.perm_append_comm (l₁ := [e, f]) (l₂ := [a, b, c, d])))
end Go.Eng
namespace Go.Proofs.Ytehelljmaiophaa.ss
set_option maxRecDepth 100000
open Go.Eng Go.RowKit Go.Ss
theorem end_trap (bm : Nat) (m : MS) (bf fn bk0 at_ : Nat) (to_ : Int) (bp : Nat) (mp : VM) (t : Tm) (y : TmY) (hk : t.kind = 4) (H : List Eng.Item) (S : List World) (s0 : World) (hs0 : s0 ∈ S) (hbf0 : s0.heap.size ≤ bf) (hbp0 : s0.heap.size ≤ bp) (hbm0 : s0.heap.size ≤ bm) (hno : ∀ k, k < s0.heap.size → NotOwned H k) (w : World)
  (hc : Cls (blk bf 195 (frC fn bk0 at_ to_ bp) :: mapI bp (mc mp) :: blk bm 160 m.c :: H) S w) :
  Calls Try.prog 138 [.pointer (some ⟨bm, 0, none⟩), .pointer (some ⟨bf, 0, none⟩), .agg (tmC t y).toArray].toArray w fun e w' => e = .returned (.tuple #[]) ∧ (Cls (blk bf 195 (frC fn bk0 at_ to_ bp) :: mapI bp (mc mp) :: blk bm 160 { m with ov := true, en := t.n, va := 0 }.c :: H) S w') := by
 obtain ⟨v, hv⟩ : ∃ v, pget mp t.arg = v := ⟨_, rfl⟩
 have hfr : frC fn bk0 at_ to_ bp = [.int .i64 (fn : Int), .int .i64 (bk0 : Int), .int .i64 (at_ : Int), .int .i64 to_, .map (some bp)] := rfl
 rw [hfr] at hc
 refine enter Try.func138 rfl Try.ntmps138 rfl hc (zen ?_)
 unfold tmC
 apply W.sr
 apply OL.box; rfl; rfl; exact CellsL.agg; (intro bk hbk; have hbk0 := hbk.mem s0 hs0)
 refine zgs ?_
 revert hbk0
 revert bk
 intro b5 hb5 hb50
 (refine W.rega (lK := ?lK1) (by (repeat (first | exact Split.z rfl | apply Split.s rfl))) (by kernel_rfl) (by decide +kernel) rfl rfl (by (first | exact CellsL.one rfl | exact CellsL.agg)) (fun c0 bq hbq => ?_) ?_ ?_; rotate_left)
 ·have hbq0 := hbq.mem s0 hs0
  refine zgs ?_
  (((first | apply OL.op | apply QL.op); exact Guard.au; rfl; rfl); (exact Pev.ilookup rfl g_c rfl g_c rfl rfl (fun w hw => hw.item (by exact mau))))
  rw [iget_mc, hv]
  skip
  exact QL.sees
 ·rfl
 intro b6 hb6
 have hb60 := hb6.mem s0 hs0
 refine zgs ?_
 refine W.cnd ?_ ?_ <;> intro s1 <;> try exact zwx s1
 refine zgs ?_
 refine OL.callE (α := Unit) (fun _ => .tuple #[]) (fun _ => True) (fun _ => Cls (blk b6 198 [.int .i64 v.k, .int .i64 v.n, .slice v.q v.l.length v.cap, .pointer (if v.k = 3 then some ⟨v.b, 0, none⟩ else none)] :: blk b5 39 [.int .i64 t.kind, .int .i64 t.arg, .int .i64 t.n, .slice y.c.1 t.cases.length y.c.2, .slice y.t.1 t.to_.length y.t.2] :: blk bf 195 [.int .i64 (fn : Int), .int .i64 (bk0 : Int), .int .i64 (at_ : Int), .int .i64 to_, .map (some bp)] :: mapI bp (mc mp) :: blk bm 160 { m with ov := true, en := t.n, va := 0 }.c :: H) S) rfl rfl (by exact Args.au) (fun w2 hw2 => (stop_calls bm m t.n 0 _ S w2 (hw2.perm (List.perm_middle (l₁ := [_, _, _, _]) (l₂ := H)))).mono fun e w3 h => ⟨(), h.1, trivial, h.2.perm (List.perm_middle (l₁ := [_, _, _, _]) (l₂ := H)).symm⟩) ?_
 intro _ _
 refine zgs ?_
 exact At.end_ (At.fin0 rfl (fun w' hw' => ⟨rfl, hw'.thin (.any (fun k hk => by rw [show k = b6 from hk]; exact hb6) (.any (fun k hk => by rw [show k = b5 from hk]; exact hb5) Thin.same))⟩))
theorem end_jump (bm : Nat) (m : MS) (bf fn bk0 at_ : Nat) (to_ : Int) (bp : Nat) (mp : VM) (t : Tm) (y : TmY) (H : List Eng.Item) (S : List World) (s0 : World) (hk : t.kind = 1) (fns : List (Go.Ss.Fn × FnY)) (p : Go.Ss.Fn × FnY) (hfn : fns[fn]? = some p) (hu : Arr fnR s0 (low s0) fns m.qF) (hn : m.nF = fns.length) (hT : TmOk s0 (low s0) t y) (h257 : t.to_.length ≤ 257) (e : Ed) (k : Nat) (hek : e.block = (k : Int)) (b : Bk) (hbk : p.1.blocks[k]? = some b) (hlen : b.params.length = e.args.length) (he6 : e.args.length ≤ 1000000) (hte : t.to_[0]? = some e) (hs0 : s0 ∈ S) (hbf0 : s0.heap.size ≤ bf) (hbp0 : s0.heap.size ≤ bp) (hbm0 : s0.heap.size ≤ bm) (hno : ∀ k, k < s0.heap.size → NotOwned H k) (w : World)
  (hc : Cls (blk bf 195 (frC fn bk0 at_ to_ bp) :: mapI bp (mc mp) :: blk bm 160 m.c :: H) S w) :
  Calls Try.prog 138 [.pointer (some ⟨bm, 0, none⟩), .pointer (some ⟨bf, 0, none⟩), .agg (tmC t y).toArray].toArray w fun r w' => r = .returned (.tuple #[]) ∧ (Cls (blk bf 195 (frC fn k 0 to_ bp) :: mapI bp (mc (pputs mp b.params (e.args.map (pget mp)))) :: blk bm 160 m.c :: H) S w') := by
 obtain ⟨v, hv⟩ : ∃ v, pget mp t.arg = v := ⟨_, rfl⟩
 have hfr : frC fn bk0 at_ to_ bp = [.int .i64 (fn : Int), .int .i64 (bk0 : Int), .int .i64 (at_ : Int), .int .i64 to_, .map (some bp)] := rfl
 rw [hfr] at hc
 refine enter Try.func138 rfl Try.ntmps138 rfl hc (zen ?_)
 unfold tmC
 apply W.sr
 apply OL.box; rfl; rfl; exact CellsL.agg; (intro bk hbk; have hbk0 := hbk.mem s0 hs0)
 refine zgs ?_
 revert hbk0
 revert bk
 intro b5 hb5 hb50
 (refine W.rega (lK := ?lK2) (by (repeat (first | exact Split.z rfl | apply Split.s rfl))) (by kernel_rfl) (by decide +kernel) rfl rfl (by (first | exact CellsL.one rfl | exact CellsL.agg)) (fun c0 bq hbq => ?_) ?_ ?_; rotate_left)
 ·have hbq0 := hbq.mem s0 hs0
  refine zgs ?_
  (((first | apply OL.op | apply QL.op); exact Guard.au; rfl; rfl); (exact Pev.ilookup rfl g_c rfl g_c rfl rfl (fun w hw => hw.item (by exact mau))))
  rw [iget_mc, hv]
  skip
  exact QL.sees
 ·rfl
 intro b6 hb6
 have hb60 := hb6.mem s0 hs0
 refine zgs ?_
 obtain ⟨es, hes, he⟩ := hT.t
 have hesl : es.length = t.to_.length := by rw [← hes, List.length_map]
 obtain ⟨a, u, hqa, hab, hu1, hcE, hokE⟩ := he.get (show 0 < es.length by rw [hesl]; exact (List.getElem?_eq_some_iff.1 hte).1)
 have hab : a.block < s0.heap.size := hab
 have hue : u.1 = e := by
  rw [← hes, List.getElem?_map, hu1] at hte
  exact Option.some.inj hte
 have hcE : CellsAt s0 (a.add (0 * 2)) [.int .i64 u.1.block, .slice u.2.1 u.1.args.length u.2.2] := hcE
 rw [hue] at hcE
 have hlt0 := (List.getElem?_eq_some_iff.1 hte).1
 have heI := hokE.2.2.1
 rw [hue] at heI
 refine W.cnd ?_ ?_ <;> intro s1 <;> try exact zwx s1
 refine zgs ?_
 refine W.cnd ?_ ?_ <;> intro s2 <;> try exact zwx s2
 rw [hqa]
 refine zgs ?_
 refine OL.callE (α := Unit) (fun _ => .tuple #[]) (fun _ => True) (fun _ => Cls (blk b6 198 [.int .i64 v.k, .int .i64 v.n, .slice v.q v.l.length v.cap, .pointer (if v.k = 3 then some ⟨v.b, 0, none⟩ else none)] :: blk b5 39 [.int .i64 t.kind, .int .i64 t.arg, .int .i64 t.n, .slice y.c.1 t.cases.length y.c.2, .slice (some a) t.to_.length y.t.2] :: blk bf 195 [.int .i64 (fn : Int), .int .i64 (k : Int), .int .i64 0, .int .i64 to_, .map (some bp)] :: mapI bp (mc (pputs mp b.params (e.args.map (pget mp)))) :: blk bm 160 m.c :: H) S) rfl rfl (by exact Args.au) (fun w2 hw2 => (follow_calls s0 fns bm m hu hn fn bk0 at_ to_ bf bp mp p hfn e u.2 he6 heI k hek b hbk hlen _ S hs0 (fun k hk => NotOwned.blk (by omega) (NotOwned.blk (by omega) (hno k hk))) hbm0 hbf0 hbp0 w2 hw2.p23).mono fun r w3 h => ⟨(), h.1, trivial, h.2.p32⟩) ?_
 intro _ _
 refine zgs ?_
 exact At.end_ (At.fin0 rfl (fun w' hw' => ⟨rfl, hw'.thin (.any (fun k hk => by rw [show k = b6 from hk]; exact hb6) (.any (fun k hk => by rw [show k = b5 from hk]; exact hb5) Thin.same))⟩))
theorem end_sw (bm : Nat) (m : MS) (bf fn bk0 at_ : Nat) (to_ : Int) (bp : Nat) (mp : VM) (t : Tm) (y : TmY) (H : List Eng.Item) (S : List World) (s0 : World) (hk : t.kind = 2 ∨ t.kind = 3) (fns : List (Go.Ss.Fn × FnY)) (p : Go.Ss.Fn × FnY) (hfn : fns[fn]? = some p) (hu : Arr fnR s0 (low s0) fns m.qF) (hn : m.nF = fns.length) (hT : TmOk s0 (low s0) t y) (h257 : t.to_.length ≤ 257) (e : Ed) (k : Nat) (hek : e.block = (k : Int)) (b : Bk) (hbk : p.1.blocks[k]? = some b) (hlen : b.params.length = e.args.length) (he6 : e.args.length ≤ 1000000) (hcs : t.cases.length ≤ 256) (hte : t.to_[chooseE t (pget mp t.arg).n]? = some e) (hs0 : s0 ∈ S) (hbf0 : s0.heap.size ≤ bf) (hbp0 : s0.heap.size ≤ bp) (hbm0 : s0.heap.size ≤ bm) (hno : ∀ k, k < s0.heap.size → NotOwned H k) (w : World)
  (hc : Cls (blk bf 195 (frC fn bk0 at_ to_ bp) :: mapI bp (mc mp) :: blk bm 160 m.c :: H) S w) :
  Calls Try.prog 138 [.pointer (some ⟨bm, 0, none⟩), .pointer (some ⟨bf, 0, none⟩), .agg (tmC t y).toArray].toArray w fun r w' => r = .returned (.tuple #[]) ∧ (((pget mp t.arg).k ≠ 0 ∧ Cls (blk bf 195 (frC fn bk0 at_ to_ bp) :: mapI bp (mc mp) :: blk bm 160 { m with ov := true, en := 5, va := 0 }.c :: H) S w') ∨ ((pget mp t.arg).k = 0 ∧ Cls (blk bf 195 (frC fn k 0 to_ bp) :: mapI bp (mc (pputs mp b.params (e.args.map (pget mp)))) :: blk bm 160 m.c :: H) S w')) := by
 obtain ⟨v, hv⟩ : ∃ v, pget mp t.arg = v := ⟨_, rfl⟩
 rw [hv] at hte
 have hfr : frC fn bk0 at_ to_ bp = [.int .i64 (fn : Int), .int .i64 (bk0 : Int), .int .i64 (at_ : Int), .int .i64 to_, .map (some bp)] := rfl
 rw [hfr] at hc
 refine enter Try.func138 rfl Try.ntmps138 rfl hc (zen ?_)
 unfold tmC
 apply W.sr
 apply OL.box; rfl; rfl; exact CellsL.agg; (intro bk hbk; have hbk0 := hbk.mem s0 hs0)
 refine zgs ?_
 revert hbk0
 revert bk
 intro b5 hb5 hb50
 (refine W.rega (lK := ?lK3) (by (repeat (first | exact Split.z rfl | apply Split.s rfl))) (by kernel_rfl) (by decide +kernel) rfl rfl (by (first | exact CellsL.one rfl | exact CellsL.agg)) (fun c0 bq hbq => ?_) ?_ ?_; rotate_left)
 ·have hbq0 := hbq.mem s0 hs0
  refine zgs ?_
  (((first | apply OL.op | apply QL.op); exact Guard.au; rfl; rfl); (exact Pev.ilookup rfl g_c rfl g_c rfl rfl (fun w hw => hw.item (by exact mau))))
  rw [iget_mc, hv]
  skip
  exact QL.sees
 ·rfl
 intro b6 hb6
 have hb60 := hb6.mem s0 hs0
 refine zgs ?_
 obtain ⟨es, hes, he⟩ := hT.t
 have hesl : es.length = t.to_.length := by rw [← hes, List.length_map]
 obtain ⟨a, u, hqa, hab, hu1, hcE, hokE⟩ := he.get (show (chooseE t v.n) < es.length by rw [hesl]; exact (List.getElem?_eq_some_iff.1 hte).1)
 have hab : a.block < s0.heap.size := hab
 have hue : u.1 = e := by
  rw [← hes, List.getElem?_map, hu1] at hte
  exact Option.some.inj hte
 have hcE : CellsAt s0 (a.add ((chooseE t v.n) * 2)) [.int .i64 u.1.block, .slice u.2.1 u.1.args.length u.2.2] := hcE
 rw [hue] at hcE
 have hlt0 := (List.getElem?_eq_some_iff.1 hte).1
 have heI := hokE.2.2.1
 rw [hue] at heI
 refine W.cnd ?_ ?_ <;> intro s1 <;> try exact zwx s1
 refine zgs ?_
 refine W.cnd ?_ ?_ <;> intro s2 <;> try exact zwx s2
 refine zgs ?_
 refine W.cnd ?_ ?_ <;> intro s3 <;> try exact zwx s3
 refine zgs ?_
 by_cases hk0 : v.k ≠ 0
 ·refine W.cond rfl (fun _ => ?_) (fun h => by simp at h; omega)
  refine zgs ?_
  refine OL.callE (α := Unit) (fun _ => .tuple #[]) (fun _ => True) (fun _ => Cls (blk b6 198 [.int .i64 v.k, .int .i64 v.n, .slice v.q v.l.length v.cap, .pointer (if v.k = 3 then some ⟨v.b, 0, none⟩ else none)] :: blk b5 39 [.int .i64 t.kind, .int .i64 t.arg, .int .i64 t.n, .slice y.c.1 t.cases.length y.c.2, .slice y.t.1 t.to_.length y.t.2] :: blk bf 195 [.int .i64 (fn : Int), .int .i64 (bk0 : Int), .int .i64 (at_ : Int), .int .i64 to_, .map (some bp)] :: mapI bp (mc mp) :: blk bm 160 { m with ov := true, en := 5, va := 0 }.c :: H) S) rfl rfl (by exact Args.au) (fun w2 hw2 => (stop_calls bm m 5 0 _ S w2 (hw2.perm (List.perm_middle (l₁ := [_, _, _, _]) (l₂ := H)))).mono fun e w3 h => ⟨(), h.1, trivial, h.2.perm (List.perm_middle (l₁ := [_, _, _, _]) (l₂ := H)).symm⟩) ?_
  intro _ _
  refine zgs ?_
  exact At.fin0 rfl (fun w' hw' => ⟨rfl, .inl ⟨by rw [hv]; exact hk0, hw'.thin (.any (fun k hk => by rw [show k = b6 from hk]; exact hb6) (.any (fun k hk => by rw [show k = b5 from hk]; exact hb5) Thin.same))⟩⟩)
 refine W.cond rfl (fun h => by simp at h; omega) (fun _ => ?_)
 rw [hqa]
 have hcl : t.cases.length ≤ 1000000 := by have := hcs; omega
 apply W.sk
 refine W.regn 10 (by (repeat (first | exact SplitN.z | apply SplitN.s))) (by kernel_rfl) (by decide +kernel) (fun w hw => hw.drew) ?_
 refine zgs ?_
 (((first | apply OL.op | apply QL.op); exact Guard.au; rfl; rfl); (exact Pev.call (v := .int .i64 (chooseE t v.n : Int)) rfl (by exact Args.au) (fun _ w2 hw2 => (choice_calls t ⟨y.c, (some a, y.t.2)⟩ v.n w2 hk hcl (hT.c.at hw2 hs0 (fun k hk => NotOwned.blk (by omega) (NotOwned.blk (by omega) (NotOwned.blk (by omega) (NotOwned.mapI (by omega) (NotOwned.blk (by omega) (hno k hk)))))))).mono (fun e w3 h => ⟨h.1, hw2.ext h.2⟩))))
 have hcl2 := (List.getElem?_eq_some_iff.1 hte).1
 refine zgs ?_
 refine OL.callE (α := Unit) (fun _ => .tuple #[]) (fun _ => True) (fun _ => Cls (blk b6 198 [.int .i64 v.k, .int .i64 v.n, .slice v.q v.l.length v.cap, .pointer (if v.k = 3 then some ⟨v.b, 0, none⟩ else none)] :: blk b5 39 [.int .i64 t.kind, .int .i64 t.arg, .int .i64 t.n, .slice y.c.1 t.cases.length y.c.2, .slice (some a) t.to_.length y.t.2] :: blk bf 195 [.int .i64 (fn : Int), .int .i64 (k : Int), .int .i64 0, .int .i64 to_, .map (some bp)] :: mapI bp (mc (pputs mp b.params (e.args.map (pget mp)))) :: blk bm 160 m.c :: H) S) rfl rfl (by exact Args.au) (fun w2 hw2 => (follow_calls s0 fns bm m hu hn fn bk0 at_ to_ bf bp mp p hfn e u.2 he6 heI k hek b hbk hlen _ S hs0 (fun k hk => NotOwned.blk (by omega) (NotOwned.blk (by omega) (hno k hk))) hbm0 hbf0 hbp0 w2 hw2.p23).mono fun r w3 h => ⟨(), h.1, trivial, h.2.p32⟩) ?_
 intro _ _
 refine zgs ?_
 exact At.end_ (At.fin0 rfl (fun w' hw' => ⟨rfl, .inr ⟨by rw [hv]; omega, hw'.thin (.any (fun k hk => by rw [show k = b6 from hk]; exact hb6) (.any (fun k hk => by rw [show k = b5 from hk]; exact hb5) Thin.same))⟩⟩))
theorem end_ret (bm : Nat) (m : MS) (bf fn bk0 at_ : Nat) (to_ : Int) (bp : Nat) (mp : VM) (t : Tm) (y : TmY) (hk : t.kind = 0) (bg bq gn gk ga : Nat) (gt : Int) (mq : VM) (O : Nat → Prop) (B : Nat) (ps : List Nat) (hps : ps.length + 2 = m.ns) (hp6 : m.ns ≤ 1000000) (H : List Eng.Item) (S : List World) (s0 : World) (hs0 : s0 ∈ S) (hbf0 : s0.heap.size ≤ bf) (hbp0 : s0.heap.size ≤ bp) (hbm0 : s0.heap.size ≤ bm) (hno : ∀ k, k < s0.heap.size → NotOwned H k) (w : World)
  (hc : Cls (blk bf 195 (frC fn bk0 at_ to_ bp) :: mapI bp (mc mp) :: blk bg 195 (frC gn gk ga gt bq) :: mapI bq (mc mq) :: blk bm 160 m.c :: row B O m.qs m.ns m.cs 192 1 (ptrs (ps ++ [bg, bf])) :: H) S w) :
  Calls Try.prog 138 [.pointer (some ⟨bm, 0, none⟩), .pointer (some ⟨bf, 0, none⟩), .agg (tmC t y).toArray].toArray w fun e w' => e = .returned (.tuple #[]) ∧ (Cls (blk bf 195 (frC fn bk0 at_ to_ bp) :: mapI bp (mc mp) :: blk bg 195 (frC gn gk ga gt bq) :: mapI bq (mc (pput mq to_ (pget mp t.arg))) :: blk bm 160 ({ m with ns := m.ns - 1 } : MS).c :: row B O m.qs (m.ns - 1) m.cs 192 1 (ptrs (ps ++ [bg])) :: H) S w') := by
 obtain ⟨v, hv⟩ : ∃ v, pget mp t.arg = v := ⟨_, rfl⟩
 have hfr : frC fn bk0 at_ to_ bp = [.int .i64 (fn : Int), .int .i64 (bk0 : Int), .int .i64 (at_ : Int), .int .i64 to_, .map (some bp)] := rfl
 rw [hfr] at hc
 refine enter Try.func138 rfl Try.ntmps138 rfl hc (zen ?_)
 unfold tmC
 apply W.sr
 apply OL.box; rfl; rfl; exact CellsL.agg; (intro bk hbk; have hbk0 := hbk.mem s0 hs0)
 refine zgs ?_
 revert hbk0
 revert bk
 intro b5 hb5 hb50
 (refine W.rega (lK := ?lK4) (by (repeat (first | exact Split.z rfl | apply Split.s rfl))) (by kernel_rfl) (by decide +kernel) rfl rfl (by (first | exact CellsL.one rfl | exact CellsL.agg)) (fun c0 bq hbq => ?_) ?_ ?_; rotate_left)
 ·have hbq0 := hbq.mem s0 hs0
  refine zgs ?_
  (((first | apply OL.op | apply QL.op); exact Guard.au; rfl; rfl); (exact Pev.ilookup rfl g_c rfl g_c rfl rfl (fun w hw => hw.item (by exact mau))))
  rw [iget_mc, hv]
  skip
  exact QL.sees
 ·rfl
 intro b6 hb6
 have hb60 := hb6.mem s0 hs0
 refine zgs ?_
 refine W.cnd ?_ ?_ <;> intro s1 <;> try exact zwx s1
 refine zgs ?_
 refine W.cnd ?_ ?_ <;> intro s2 <;> try exact zwx s2
 refine zgs ?_
 refine W.cnd ?_ ?_ <;> intro s3 <;> try exact zwx s3
 refine zgs ?_
 refine OL.callE (α := Unit) (fun _ => .tuple #[]) (fun _ => True) (fun _ => Cls (blk b6 198 [.int .i64 v.k, .int .i64 v.n, .slice v.q v.l.length v.cap, .pointer (if v.k = 3 then some ⟨v.b, 0, none⟩ else none)] :: blk b5 39 [.int .i64 t.kind, .int .i64 t.arg, .int .i64 t.n, .slice y.c.1 t.cases.length y.c.2, .slice y.t.1 t.to_.length y.t.2] :: blk bf 195 [.int .i64 (fn : Int), .int .i64 (bk0 : Int), .int .i64 (at_ : Int), .int .i64 to_, .map (some bp)] :: mapI bp (mc mp) :: blk bg 195 (frC gn gk ga gt bq) :: mapI bq (mc (pput mq to_ v)) :: blk bm 160 ({ m with ns := m.ns - 1 } : MS).c :: row B O m.qs (m.ns - 1) m.cs 192 1 (ptrs (ps ++ [bg])) :: H) S) rfl rfl (by exact Args.au) (fun w2 hw2 => (leave_more bm m bf _ fn bk0 at_ to_ bp rfl v bg bq gn gk ga gt mq O B ps hps hp6 _ S s0 hs0 w2 hw2.q8).mono fun e w3 h => ⟨(), h.1, trivial, h.2.q8'⟩) ?_
 intro _ _
 refine zgs ?_
 exact At.end_ (At.fin0 rfl (fun w' hw' => ⟨rfl, by rw [hv]; exact hw'.thin (.any (fun k hk => by rw [show k = b6 from hk]; exact hb6) (.any (fun k hk => by rw [show k = b5 from hk]; exact hb5) Thin.same))⟩))
theorem end_last (bm : Nat) (m : MS) (bf fn bk0 at_ : Nat) (to_ : Int) (bp : Nat) (mp : VM) (t : Tm) (y : TmY) (hk : t.kind = 0) (O : Nat → Prop) (B : Nat) (hns : m.ns = 1) (H : List Eng.Item) (S : List World) (s0 : World) (hs0 : s0 ∈ S) (hbf0 : s0.heap.size ≤ bf) (hbp0 : s0.heap.size ≤ bp) (hbm0 : s0.heap.size ≤ bm) (hno : ∀ k, k < s0.heap.size → NotOwned H k) (w : World)
  (hc : Cls (blk bf 195 (frC fn bk0 at_ to_ bp) :: mapI bp (mc mp) :: blk bm 160 m.c :: row B O m.qs m.ns m.cs 192 1 (ptrs [bf]) :: H) S w) :
  Calls Try.prog 138 [.pointer (some ⟨bm, 0, none⟩), .pointer (some ⟨bf, 0, none⟩), .agg (tmC t y).toArray].toArray w fun e w' => e = .returned (.tuple #[]) ∧ (Cls (blk bf 195 (frC fn bk0 at_ to_ bp) :: mapI bp (mc mp) :: blk bm 160 ({ m with ns := 0, ov := true, en := 0, va := if (pget mp t.arg).k = 0 ∨ (pget mp t.arg).k = 1 then (pget mp t.arg).n else 0 } : MS).c :: row B O m.qs 0 m.cs 192 1 [] :: H) S w') := by
 obtain ⟨v, hv⟩ : ∃ v, pget mp t.arg = v := ⟨_, rfl⟩
 have hfr : frC fn bk0 at_ to_ bp = [.int .i64 (fn : Int), .int .i64 (bk0 : Int), .int .i64 (at_ : Int), .int .i64 to_, .map (some bp)] := rfl
 rw [hfr] at hc
 refine enter Try.func138 rfl Try.ntmps138 rfl hc (zen ?_)
 unfold tmC
 apply W.sr
 apply OL.box; rfl; rfl; exact CellsL.agg; (intro bk hbk; have hbk0 := hbk.mem s0 hs0)
 refine zgs ?_
 revert hbk0
 revert bk
 intro b5 hb5 hb50
 (refine W.rega (lK := ?lK5) (by (repeat (first | exact Split.z rfl | apply Split.s rfl))) (by kernel_rfl) (by decide +kernel) rfl rfl (by (first | exact CellsL.one rfl | exact CellsL.agg)) (fun c0 bq hbq => ?_) ?_ ?_; rotate_left)
 ·have hbq0 := hbq.mem s0 hs0
  refine zgs ?_
  (((first | apply OL.op | apply QL.op); exact Guard.au; rfl; rfl); (exact Pev.ilookup rfl g_c rfl g_c rfl rfl (fun w hw => hw.item (by exact mau))))
  rw [iget_mc, hv]
  skip
  exact QL.sees
 ·rfl
 intro b6 hb6
 have hb60 := hb6.mem s0 hs0
 refine zgs ?_
 refine W.cnd ?_ ?_ <;> intro s1 <;> try exact zwx s1
 refine zgs ?_
 refine W.cnd ?_ ?_ <;> intro s2 <;> try exact zwx s2
 refine zgs ?_
 refine W.cnd ?_ ?_ <;> intro s3 <;> try exact zwx s3
 refine zgs ?_
 refine OL.callE (α := Unit) (fun _ => .tuple #[]) (fun _ => True) (fun _ => Cls (blk b6 198 [.int .i64 v.k, .int .i64 v.n, .slice v.q v.l.length v.cap, .pointer (if v.k = 3 then some ⟨v.b, 0, none⟩ else none)] :: blk b5 39 [.int .i64 t.kind, .int .i64 t.arg, .int .i64 t.n, .slice y.c.1 t.cases.length y.c.2, .slice y.t.1 t.to_.length y.t.2] :: blk bf 195 [.int .i64 (fn : Int), .int .i64 (bk0 : Int), .int .i64 (at_ : Int), .int .i64 to_, .map (some bp)] :: mapI bp (mc mp) :: blk bm 160 ({ m with ns := 0, ov := true, en := 0, va := if v.k = 0 ∨ v.k = 1 then v.n else 0 } : MS).c :: row B O m.qs 0 m.cs 192 1 [] :: H) S) rfl rfl (by exact Args.au) (fun w2 hw2 => (leave_last bm m bf [] v O B hns _ S s0 hs0 w2 hw2.q6).mono fun e w3 h => ⟨(), h.1, trivial, h.2.q6'⟩) ?_
 intro _ _
 refine zgs ?_
 exact At.end_ (At.fin0 rfl (fun w' hw' => ⟨rfl, by rw [hv]; exact hw'.thin (.any (fun k hk => by rw [show k = b6 from hk]; exact hb6) (.any (fun k hk => by rw [show k = b5 from hk]; exact hb5) Thin.same))⟩))
end Go.Proofs.Ytehelljmaiophaa.ss

/- The walk of ssa's machine: a step at an instruction. Conditions: none. -/
namespace Go.Ss
open Go.Eng Go.RowKit
def ExQ (r : Rs) (x x' : XS) (v : PV) (t : Int) : Prop := match r with
 | .trap t' => t = t' ∧ x'.m = x.m ∧ x'.out = x.out
 | .ok sv sA' out' c => t = 0 ∧ ((x.m.left < (c : Int) ∧ x'.m.sh = true ∧ x'.m.ov = true) ∨
   ((c : Int) ≤ x.m.left ∧ XOk x' sA' ∧ x'.out = out' ∧ MSame x.m x'.m ∧ x'.m.left = x.m.left - c ∧ Er (bxN x'.bs) v sv ∧ (∃ ex, x'.bs = x.bs ++ ex) ∧ (∀ r ∈ x.L, r ∈ x'.L) ∧ InP x'.L v))
end Go.Ss
namespace Go.Proofs.Ytehelljmaiophaa.ss
set_option maxRecDepth 100000
open Go.Eng Go.RowKit Go.Ss
theorem exec_calls (bm : Nat) (i : Go.Ss.In) (iy : Sc) (hform : formE i = 0) (hop : i.op ≠ 13 ∧ i.op ≠ 14) (vs : List PV) (svs : List SV) (x : XS) (sA : List (List SV)) (hx : XOk x sA) (hvl : vs.length = i.args.length) (bt : Nat) (hE : Ers (bxN x.bs) vs svs) (hin : ∀ p ∈ vs, InP x.L p) (nf : Nat) (hwf : ∀ v ∈ svs, WfV nf sA.length v) (H : List Eng.Item) (S : List World) (s0 : World) (hs0 : s0 ∈ S) (w : World)
  (hc : Cls (blk bt 198 (cat pC vs) :: xI s0.heap.size bm x H) S w) :
  Calls Try.prog 141 [.pointer (some ⟨bm, 0, none⟩), .agg (inC i iy).toArray, .slice (some ⟨bt, 0, none⟩) vs.length vs.length].toArray w fun e w' =>
   ∃ v t x', e = .returned (.tuple #[.agg (pC v).toArray, .int .i64 t]) ∧ ExR (insP i.op i.n svs sA x.out) x x' vs bt v t ∧ Cls (blk bt 198 (cat pC vs) :: xI s0.heap.size bm x' H) S w' := by
 have h24 := (form_args hform).2.2.2.2.2
 by_cases h0 : i.op = 0
 ·exact exec_0 bm i iy hform h0 vs svs x sA hx hvl bt hE hin nf hwf H S s0 hs0 w hc
 by_cases h1 : 1 ≤ i.op ∧ i.op ≤ 7
 ·exact exec_bin bm i iy hform h1 vs svs x sA hx hvl bt hE hin nf hwf H S s0 hs0 w hc
 by_cases h8 : i.op = 8
 ·exact exec_8 bm i iy hform h8 vs svs x sA hx hvl bt hE hin nf hwf H S s0 hs0 w hc
 by_cases h9 : i.op = 9
 ·exact exec_9 bm i iy hform h9 vs svs x sA hx hvl bt hE hin nf hwf H S s0 hs0 w hc
 by_cases h10 : i.op = 10
 ·exact exec_10 bm i iy hform h10 vs svs x sA hx hvl bt hE hin nf hwf H S s0 hs0 w hc
 by_cases h11 : i.op = 11
 ·exact exec_11 bm i iy hform h11 vs svs x sA hx hvl bt hE hin nf hwf H S s0 hs0 w hc
 by_cases h12 : i.op = 12
 ·exact exec_12 bm i iy hform h12 vs svs x sA hx hvl bt hE hin nf hwf H S s0 hs0 w hc
 by_cases h15 : i.op = 15
 ·exact exec_15 bm i iy hform h15 vs svs x sA hx hvl bt hE hin nf hwf H S s0 hs0 w hc
 by_cases h16 : i.op = 16
 ·exact exec_16 bm i iy hform h16 vs svs x sA hx hvl bt hE hin nf hwf H S s0 hs0 w hc
 by_cases h17 : i.op = 17
 ·exact exec_17 bm i iy hform h17 vs svs x sA hx hvl bt hE hin nf hwf H S s0 hs0 w hc
 by_cases h18 : i.op = 18
 ·exact exec_18 bm i iy hform h18 vs svs x sA hx hvl bt hE hin nf hwf H S s0 hs0 w hc
 by_cases h19 : i.op = 19
 ·exact exec_19 bm i iy hform h19 vs svs x sA hx hvl bt hE hin nf hwf H S s0 hs0 w hc
 by_cases h20 : i.op = 20
 ·exact exec_20 bm i iy hform h20 vs svs x sA hx hvl bt hE hin nf hwf H S s0 hs0 w hc
 by_cases h21 : i.op = 21
 ·exact exec_21 bm i iy hform h21 vs svs x sA hx hvl bt hE hin nf hwf H S s0 hs0 w hc
 by_cases h22 : i.op = 22
 ·exact exec_22 bm i iy hform h22 vs svs x sA hx hvl bt hE hin nf hwf H S s0 hs0 w hc
 by_cases h23 : i.op = 23
 ·exact exec_23 bm i iy hform h23 vs svs x sA hx hvl bt hE hin nf hwf H S s0 hs0 w hc
 exact exec_24 bm i iy hform (by omega) vs svs x sA hx hvl bt hE hin nf hwf H S s0 hs0 w hc
theorem ExR.settle {bm : Nat} {r : Rs} {x x' : XS} {vs : List PV} {bt : Nat} {v : PV} {t : Int} {H : List Eng.Item} {S : List World} {s0 w : World} (hbt : AllLe S bt) (hbt0 : s0.heap.size ≤ bt) (hv16 : vs.length ≤ 16) (hin : ∀ p ∈ vs, InP x.L p) (h : ExR r x x' vs bt v t)
  (hc : Cls (blk bt 198 (cat pC vs) :: xI s0.heap.size bm x' H) S w) : ∃ x'', ExQ r x x'' v t ∧ Cls (xI s0.heap.size bm x'' H) S w ∧ x''.m = x'.m ∧ x''.out = x'.out := by
 have hdrop : Cls (xI s0.heap.size bm x' H) S w := hc.thin (.any (fun k hk => by rw [show k = bt from hk]; exact hbt) Thin.same)
 cases r with
 | trap t' =>
  obtain ⟨h1, rfl⟩ := h
  exact ⟨x', ⟨h1, rfl, rfl⟩, hdrop, rfl, rfl⟩
 | ok sv sA' out' c =>
  obtain ⟨h1, h2 | ⟨h2, h3, h4, h5, h6, h7, h8, h9, h10⟩⟩ := h
  ·exact ⟨x', ⟨h1, .inl h2⟩, hdrop, rfl, rfl⟩
  ·rcases h10 with h10 | ⟨hq, hl⟩
   ·exact ⟨x', ⟨h1, .inr ⟨h2, h3, h4, h5, h6, h7, h8, h9, h10⟩⟩, hdrop, rfl, rfl⟩
   ·have hc2 : Cls (blk bt 198 (cat pC vs) :: pool (pvR pF) s0.heap.size x'.Op x'.L :: blk bm 160 x'.m.c :: row s0.heap.size x'.Oo x'.m.qo x'.m.no x'.m.co 3 1 (ints x'.out) :: bag s0.heap.size (arI x'.A) :: H) S w :=
     hc.perm (.cons _ (List.perm_middle (l₁ := [_, _]) (l₂ := bag s0.heap.size (arI x'.A) :: H)))
    have hok : PVO pF w (fun k => s0.heap.size ≤ k ∧ (x'.Op k ∨ k = bt)) v := by
     obtain ⟨k, n, q, cap, b, l⟩ := v
     simp only [PV.q, PV.l] at hq hl
     subst hq hl
     refine PVO.of hv16 ⟨hbt0, .inr rfl⟩ (fun j u hj => by rw [add_mid, blk_cell (hc2.item (.head _)), Nat.zero_add]; exact hj) (fun p hp => ?_)
     exact PVO.mono (fun k hk => ⟨hk.1, .inl hk.2⟩) (((hin p hp).more h9).ok (hc2.item (.tail _ (.head _))))
    have hc3 := hc2.pool_join (y := ()) (fun k hk => by rw [show k = bt from hk]; exact hbt0) hok
    refine ⟨{ x' with L := x'.L ++ [(v, ())], Op := fun k => x'.Op k ∨ k = bt }, ⟨h1, .inr ⟨h2, h3.push _ _, h4, h5, h6, h7, h8, fun r hr => List.mem_append_left _ (h9 r hr), InP.last⟩⟩, ?_, rfl, rfl⟩
    exact hc3.perm (List.perm_middle (l₁ := [_, _]) (l₂ := bag s0.heap.size (arI x'.A) :: H)).symm
end Go.Proofs.Ytehelljmaiophaa.ss

/- The walk of ssa's machine: a step. Conditions: none. -/
namespace Go.Eng
open Go.RowKit
def NotEqI (a b : Int) : Prop := a ≠ b
theorem Bin.eql_nof {P : Program} {t : TypeId} {k : IntKind} {a b : Int} (h : NotEqI a b) : Bin P .eql t (.int k a) (.int k b) (.bool false) := by
 have := Bin.eql (P := P) (t := t) (k := k) (a := a) (b := b)
 rwa [decide_eq_false (show ¬ a = b from h)] at this
theorem Cls.q7 {H : List Item} {S : List World} {w : World} {a b c d e f g : Item} (h : Cls (a :: b :: c :: d :: e :: f :: g :: H) S w) : Cls (g :: f :: a :: b :: c :: d :: e :: H) S w := by
 have h1 : Cls (f :: g :: a :: b :: c :: d :: e :: H) S w := h.perm (List.Perm.append_right H (List.perm_append_comm (l₁ := [a, b, c, d, e]) (l₂ := [f, g])))
 exact h1.perm (List.Perm.swap _ _ _)
theorem Cls.ent {H : List Item} {S : List World} {w : World} {a b c d e f : Item} (h : Cls (a :: b :: c :: d :: e :: f :: H) S w) : Cls (a :: b :: e :: f :: d :: c :: H) S w := by
 have h1 : Cls (a :: b :: e :: f :: c :: d :: H) S w := h.perm (.cons _ (.cons _ (List.Perm.append_right H (List.perm_append_comm (l₁ := [c, d]) (l₂ := [e, f])))))
 exact h1.perm (.cons _ (.cons _ (.cons _ (.cons _ (List.Perm.swap _ _ _)))))
end Go.Eng
namespace Go.Proofs.Ytehelljmaiophaa.ss
set_option maxRecDepth 100000
open Go.Eng Go.RowKit Go.Ss
theorem step_end (fns : List (Go.Ss.Fn × FnY)) (bm bf fn bk at_ : Nat) (to_ : Int) (bp : Nat) (mp : VM) (x : XS) (hn : x.m.nF = fns.length) (p : Go.Ss.Fn × FnY) (hfn : fns[fn]? = some p) (b : Bk) (hb : p.1.blocks[bk]? = some b) (Os : Nat → Prop) (ps : List Nat) (hps : x.m.ns = ps.length + 1) (hp6 : x.m.ns ≤ 900000) (H : List Eng.Item) (S : List World) (s0 : World) (hs0 : s0 ∈ S) (hu : Arr fnR s0 (low s0) fns x.m.qF) (hbf0 : s0.heap.size ≤ bf) (hbp0 : s0.heap.size ≤ bp) (hbm0 : s0.heap.size ≤ bm) (hno : ∀ k, k < s0.heap.size → NotOwned H k) (hat : at_ = b.ins.length) (Φ : World → Prop) (hEnd : ∀ (y : TmY), TmOk s0 (low s0) b.term y → ∀ (X : Eng.Item) w2, (∀ k, X.own k → AllLe S k) → Cls (blk bf 195 (frC fn bk at_ to_ bp) :: mapI bp (mc mp) :: X :: row s0.heap.size Os x.m.qs x.m.ns x.m.cs 192 1 (ptrs (ps ++ [bf])) :: xI s0.heap.size bm x H) S w2 → Calls Try.prog 138 [.pointer (some ⟨bm, 0, none⟩), .pointer (some ⟨bf, 0, none⟩), .agg (tmC b.term y).toArray].toArray w2 fun e w' => e = .returned (.tuple #[]) ∧ Φ w') (w : World)
  (hc : Cls (blk bf 195 (frC fn bk at_ to_ bp) :: mapI bp (mc mp) :: row s0.heap.size Os x.m.qs x.m.ns x.m.cs 192 1 (ptrs (ps ++ [bf])) :: xI s0.heap.size bm x H) S w) :
  Calls Try.prog 110 [.pointer (some ⟨bm, 0, none⟩)].toArray w fun e w' => e = .returned (.tuple #[]) ∧ (Φ w') := by
 obtain ⟨a, z, hqa, hab, hz, hcF, hok⟩ := hu.get (show fn < fns.length from (List.getElem?_eq_some_iff.1 hfn).1)
 rw [hfn] at hz
 obtain rfl := Option.some.inj hz
 have hfl := (List.getElem?_eq_some_iff.1 hfn).1
 have hab : a.block < s0.heap.size := hab
 have hcF : CellsAt s0 (a.add (fn * 2)) [.int .i64 p.1.name, .slice p.2.q p.1.blocks.length p.2.c] := hcF
 obtain ⟨es, hes, he⟩ := hok.b
 have hbl := (List.getElem?_eq_some_iff.1 hb).1
 have hel : es.length = p.1.blocks.length := by rw [← hes, List.length_map]
 obtain ⟨a2, y, hq2, hab2, hy, hcB, hokB⟩ := he.get (show bk < es.length by omega)
 have hyb : y.1 = b := by
  rw [← hes, List.getElem?_map, hy] at hb
  exact Option.some.inj hb
 subst hyb
 have hab2 : a2.block < s0.heap.size := hab2
 have hcB : CellsAt s0 (a2.add (bk * 7)) [.slice y.2.p.1 y.1.params.length y.2.p.2, .slice y.2.i.1 y.1.ins.length y.2.i.2, .int .i64 y.1.term.kind, .int .i64 y.1.term.arg, .int .i64 y.1.term.n, .slice y.2.t.c.1 y.1.term.cases.length y.2.t.c.2, .slice y.2.t.t.1 y.1.term.to_.length y.2.t.t.2] := hcB
 rw [hq2] at hcF
 obtain ⟨m, out, Oo, L, Op, A⟩ := x
 obtain ⟨qF, nF, cF, main, qs, ns, cs, left, sh, ov, qo, no, co, en, va⟩ := m
 simp only at hn hqa hps hp6
 subst hn hqa hps
 unfold xI frC MS.c at hc
 simp only at hc
 have hrv : (ptrs (ps ++ [bf]))[0 + (ps.length : Int).toNat * 1]? = some (.pointer (some ⟨bf, 0, none⟩)) := by
  rw [show 0 + (ps.length : Int).toNat * 1 = ps.length by omega]
  exact ptrs_get (by simp)
 have hI1 : ((ps.length + 1 : Nat) : Int) - 1 = (ps.length : Int) := by omega
 refine enter Try.func110 rfl Try.ntmps110 rfl hc (zen ?_)
 refine W.fact (fun w2 hw2 => row_some (hw2.item (.tail _ (.tail _ (.head _)))) (by omega)) ?_
 rintro ⟨gs, hgs⟩
 subst hgs
 apply W.seq
 apply W.regd0; decide +kernel; kernel_rfl; decide +kernel; exact fun w hw => hw.drew
 apply qmv; rfl; rfl
 apply qop; rfl; apply Pev.nil_ptr; rfl; exact yes
 apply qfa; rfl; rfl; rfl
 apply qld; rfl; rfl; apply List.Mem.tail; exact .tail _ (.tail _ (.head _)); rfl; rfl
 apply qmv; rfl; rfl
 apply qop; rfl; apply Pev.nil_ptr; rfl; exact yes
 apply qfa; rfl; rfl; rfl
 apply qld; rfl; rfl; apply List.Mem.tail; exact .tail _ (.tail _ (.head _)); rfl; rfl
 apply qop; rfl; apply Pev.len_slice; rfl; exact yes; rfl
 apply qbn; rfl; rfl; rfl; apply Bin.sub_in; omega
 apply qop; rfl; apply Pev.idxB; rfl; exact yes; rfl; exact yes; rfl; intro hcond; omega; rfl
 rw [hI1]
 apply qop; rfl; apply Pev.load_row; rfl; exact yes; exact .tail _ (.tail _ (.head _)); rfl; assumption
 apply qas; rfl; rfl
 apply QL.nil
 with_reducible apply At.next
 apply W.seq
 (refine W.rega (lK := ?lK1) (by (repeat (first | exact Split.z rfl | apply Split.s rfl))) (by kernel_rfl) (by decide +kernel) rfl rfl (by (first | exact CellsL.one rfl | exact CellsL.agg)) (fun c0 bq hbq => ?_) ?_ ?_; rotate_left)
 ·have hbq0 := hbq.mem s0 hs0
  apply qmv; rfl; rfl
  apply qop; rfl; apply Pev.nil_ptr; rfl; exact yes
  apply qfa; rfl; rfl; rfl
  apply qfa; rfl; rfl; rfl
  apply qld; rfl; rfl; apply List.Mem.tail; apply List.Mem.tail; exact .tail _ (.tail _ (.head _)); rfl; rfl
  apply qmv; rfl; rfl
  apply qop; rfl; apply Pev.nil_ptr; rfl; exact yes
  apply qfa; rfl; rfl; rfl
  apply qld; rfl; rfl; exact .tail _ (.head _); rfl; rfl
  apply qop; rfl; apply Pev.idx; rfl; exact yes; rfl; exact yes; rfl; rfl; intro hcond; omega
  apply qop; rfl; apply Pev.fldA; rfl; exact yes; rfl
  apply qop; rfl; apply Pev.load_kept; rfl; exact yes; assumption; rfl; intro hcond; apply CellsAt.at_ (by assumption) rfl; intro hcond; (simp only [add_block]; assumption); intro hcond; (focus ((try simp only [add_block]); (repeat (first | exact NotOwned.nil | exact hno _ (by omega) | refine NotOwned.blk (by omega) ?_ | refine NotOwned.row (by omega) ?_ | refine NotOwned.rws (by omega) ?_ | refine NotOwned.pile (by omega) ?_ | refine NotOwned.pool (by omega) ?_ | refine NotOwned.bag (by omega) ?_ | refine NotOwned.mapI (by omega) ?_ | apply NotOwned.bif | refine NotOwned.nothing ?_)); done))
  apply qmv; rfl; rfl
  apply qop; rfl; apply Pev.nil_ptr; rfl; exact yes
  apply qfa; rfl; rfl; rfl
  apply qld; rfl; rfl; exact .tail _ (.head _); rfl; rfl
  apply qop; rfl; apply Pev.idx; rfl; exact yes; rfl; exact yes; rfl; rfl; intro hcond; omega
  apply qop; rfl; apply Pev.load_keptA; rfl; exact yes; assumption; rfl; intro hcond; assumption; rfl; intro hcond; (rw [add_block]; assumption); intro hcond; (focus ((try simp only [add_block]); (repeat (first | exact NotOwned.nil | exact hno _ (by omega) | refine NotOwned.blk (by omega) ?_ | refine NotOwned.row (by omega) ?_ | refine NotOwned.rws (by omega) ?_ | refine NotOwned.pile (by omega) ?_ | refine NotOwned.pool (by omega) ?_ | refine NotOwned.bag (by omega) ?_ | refine NotOwned.mapI (by omega) ?_ | apply NotOwned.bif | refine NotOwned.nothing ?_)); done))
  exact QL.sees
 ·rfl
 intro b3 hb3
 have hb30 := hb3.mem s0 hs0
 apply OL.storeB; rfl; rfl; exact CellsL.agg; rfl; rfl; rfl; exact Swap.au; exact Put.au
 apply OL.nx
 apply W.seq
 apply W.seq
 apply W.regd0; decide +kernel; kernel_rfl; decide +kernel; exact fun w hw => hw.drew
 apply qmv; rfl; rfl
 apply qop; rfl; apply Pev.nil_ptr; rfl; exact yes
 apply qfa; rfl; rfl; rfl
 apply qld; rfl; rfl; exact .tail _ (.head _); rfl; rfl
 apply qfa; rfl; rfl; rfl
 apply qld; rfl; rfl; exact .head _; rfl; rfl
 apply qop; rfl; apply Pev.len_slice; rfl; exact yes; rfl
 apply qbn; rfl; rfl; rfl; apply Bin.eql
 apply QL.nil
 with_reducible apply At.next
 refine W.cond rfl (fun _ => ?_) (fun h => by simp [hat] at h)
 apply W.sr
 apply omv; rfl; rfl
 apply omv; rfl; rfl
 apply ofa; rfl; rfl; rfl
 apply oop; rfl; apply Pev.load_blkA; rfl; exact yes; exact .head _; rfl; exact Take.au
 refine OL.callE (α := Unit) (fun _ => .tuple #[]) (fun _ => True) (fun _ => Φ) rfl rfl (by exact Args.au) (fun w2 hw2 => (hEnd y.2.t hokB.t _ w2 (fun k hk => by rw [show k = b3 from hk]; exact hb3) hw2.in2).mono fun e w3 h => ⟨(), h.1, trivial, h.2⟩) ?_
 intro _ _
 apply OL.nx
 refine W.rt ?_
 exact At.fin0 rfl (fun w' hw' => ⟨rfl, hw'⟩)
theorem step_ins (fns : List (Go.Ss.Fn × FnY)) (bm bf fn bk at_ : Nat) (to_ : Int) (bp : Nat) (mp : VM) (x : XS) (hn : x.m.nF = fns.length) (p : Go.Ss.Fn × FnY) (hfn : fns[fn]? = some p) (b : Bk) (hb : p.1.blocks[bk]? = some b) (Os : Nat → Prop) (ps : List Nat) (hps : x.m.ns = ps.length + 1) (hp6 : x.m.ns ≤ 900000) (H : List Eng.Item) (S : List World) (s0 : World) (hs0 : s0 ∈ S) (hu : Arr fnR s0 (low s0) fns x.m.qF) (hbf0 : s0.heap.size ≤ bf) (hbp0 : s0.heap.size ≤ bp) (hbm0 : s0.heap.size ≤ bm) (hno : ∀ k, k < s0.heap.size → NotOwned H k) (hil6 : b.ins.length ≤ 1000000) (i : Go.Ss.In) (hi : b.ins[at_]? = some i) (hform : formE i = 0) (svs : List SV) (sA : List (List SV)) (hx : XOk x sA) (hE : Ers (bxN x.bs) (i.args.map (pget mp)) svs) (hin : ∀ p ∈ (i.args.map (pget mp)), InP x.L p) (nf : Nat) (hwf : ∀ v ∈ svs, WfV nf sA.length v) (b2 : Bk) (clo : Bool) (hclo : clo = true ↔ ((pget mp (i.args.getD 0 0)).k = 2 ∧ b2.params.length = i.args.length)) (fn2 : Nat) (p2 : Go.Ss.Fn × FnY) (hf2 : i.op = 13 ∨ (i.op = 14 ∧ (pget mp (i.args.getD 0 0)).k = 2) → fns[fn2]? = some p2 ∧ p2.1.blocks[0]? = some b2) (h13 : i.op = 13 → i.n = (fn2 : Int) ∧ b2.params.length = i.args.length) (h14 : i.op = 14 → (pget mp (i.args.getD 0 0)).k = 2 → (pget mp (i.args.getD 0 0)).n = (fn2 : Int)) (w : World)
  (hc : Cls (blk bf 195 (frC fn bk at_ to_ bp) :: mapI bp (mc mp) :: row s0.heap.size Os x.m.qs x.m.ns x.m.cs 192 1 (ptrs (ps ++ [bf])) :: xI s0.heap.size bm x H) S w) :
  Calls Try.prog 110 [.pointer (some ⟨bm, 0, none⟩)].toArray w fun e w' => e = .returned (.tuple #[]) ∧ ((i.op = 13 ∧ ∃ (bf2 bp2 c' : Nat) (O' : Nat → Prop) (q' : Option Addr), (s0.heap.size ≤ bf2 ∧ s0.heap.size ≤ bp2) ∧ Cls (blk bf2 195 (frC fn2 0 0 i.to_ bp2) :: mapI bp2 (mc (pputs [] b2.params (i.args.map (pget mp)))) :: blk bf 195 (frC fn bk (at_ + 1) to_ bp) :: mapI bp (mc mp) :: row s0.heap.size O' q' (x.m.ns + 1) c' 192 1 (ptrs (ps ++ [bf, bf2])) :: xI s0.heap.size bm { x with m := { x.m with qs := q', ns := x.m.ns + 1, cs := c' } } H) S w') ∨ (i.op = 14 ∧ clo = true ∧ ∃ (bf2 bp2 c' : Nat) (O' : Nat → Prop) (q' : Option Addr), (s0.heap.size ≤ bf2 ∧ s0.heap.size ≤ bp2) ∧ Cls (blk bf2 195 (frC fn2 0 0 i.to_ bp2) :: mapI bp2 (mc (pputs [] b2.params (i.args.map (pget mp)))) :: blk bf 195 (frC fn bk (at_ + 1) to_ bp) :: mapI bp (mc mp) :: row s0.heap.size O' q' (x.m.ns + 1) c' 192 1 (ptrs (ps ++ [bf, bf2])) :: xI s0.heap.size bm { x with m := { x.m with qs := q', ns := x.m.ns + 1, cs := c' } } H) S w') ∨ (i.op = 14 ∧ clo = false ∧ Cls (blk bf 195 (frC fn bk (at_ + 1) to_ bp) :: mapI bp (mc mp) :: row s0.heap.size Os x.m.qs x.m.ns x.m.cs 192 1 (ptrs (ps ++ [bf])) :: xI s0.heap.size bm { x with m := { x.m with ov := true, en := 5, va := 0 } } H) S w') ∨ (i.op ≠ 13 ∧ i.op ≠ 14 ∧ ∃ v t x', ExQ (insP i.op i.n svs sA x.out) x x' v t ∧ ((t ≠ 0 ∧ Cls (blk bf 195 (frC fn bk (at_ + 1) to_ bp) :: mapI bp (mc (pput mp i.to_ v)) :: row s0.heap.size Os x.m.qs x.m.ns x.m.cs 192 1 (ptrs (ps ++ [bf])) :: xI s0.heap.size bm { x' with m := { x'.m with ov := true, en := t, va := 0 } } H) S w') ∨ (t = 0 ∧ Cls (blk bf 195 (frC fn bk (at_ + 1) to_ bp) :: mapI bp (mc (pput mp i.to_ v)) :: row s0.heap.size Os x.m.qs x.m.ns x.m.cs 192 1 (ptrs (ps ++ [bf])) :: xI s0.heap.size bm x' H) S w')))) := by
 obtain ⟨a, z, hqa, hab, hz, hcF, hok⟩ := hu.get (show fn < fns.length from (List.getElem?_eq_some_iff.1 hfn).1)
 rw [hfn] at hz
 obtain rfl := Option.some.inj hz
 have hfl := (List.getElem?_eq_some_iff.1 hfn).1
 have hab : a.block < s0.heap.size := hab
 have hcF : CellsAt s0 (a.add (fn * 2)) [.int .i64 p.1.name, .slice p.2.q p.1.blocks.length p.2.c] := hcF
 obtain ⟨es, hes, he⟩ := hok.b
 have hbl := (List.getElem?_eq_some_iff.1 hb).1
 have hel : es.length = p.1.blocks.length := by rw [← hes, List.length_map]
 obtain ⟨a2, y, hq2, hab2, hy, hcB, hokB⟩ := he.get (show bk < es.length by omega)
 have hyb : y.1 = b := by
  rw [← hes, List.getElem?_map, hy] at hb
  exact Option.some.inj hb
 subst hyb
 have hab2 : a2.block < s0.heap.size := hab2
 have hcB : CellsAt s0 (a2.add (bk * 7)) [.slice y.2.p.1 y.1.params.length y.2.p.2, .slice y.2.i.1 y.1.ins.length y.2.i.2, .int .i64 y.1.term.kind, .int .i64 y.1.term.arg, .int .i64 y.1.term.n, .slice y.2.t.c.1 y.1.term.cases.length y.2.t.c.2, .slice y.2.t.t.1 y.1.term.to_.length y.2.t.t.2] := hcB
 rw [hq2] at hcF
 obtain ⟨m, out, Oo, L, Op, A⟩ := x
 obtain ⟨qF, nF, cF, main, qs, ns, cs, left, sh, ov, qo, no, co, en, va⟩ := m
 simp only at hn hqa hps hp6
 subst hn hqa hps
 unfold xI frC MS.c at hc
 simp only at hc
 have hrv : (ptrs (ps ++ [bf]))[0 + (ps.length : Int).toNat * 1]? = some (.pointer (some ⟨bf, 0, none⟩)) := by
  rw [show 0 + (ps.length : Int).toNat * 1 = ps.length by omega]
  exact ptrs_get (by simp)
 have hI1 : ((ps.length + 1 : Nat) : Int) - 1 = (ps.length : Int) := by omega
 refine enter Try.func110 rfl Try.ntmps110 rfl hc (zen ?_)
 refine W.fact (fun w2 hw2 => row_some (hw2.item (.tail _ (.tail _ (.head _)))) (by omega)) ?_
 rintro ⟨gs, hgs⟩
 subst hgs
 apply W.seq
 apply W.regd0; decide +kernel; kernel_rfl; decide +kernel; exact fun w hw => hw.drew
 apply qmv; rfl; rfl
 apply qop; rfl; apply Pev.nil_ptr; rfl; exact yes
 apply qfa; rfl; rfl; rfl
 apply qld; rfl; rfl; apply List.Mem.tail; exact .tail _ (.tail _ (.head _)); rfl; rfl
 apply qmv; rfl; rfl
 apply qop; rfl; apply Pev.nil_ptr; rfl; exact yes
 apply qfa; rfl; rfl; rfl
 apply qld; rfl; rfl; apply List.Mem.tail; exact .tail _ (.tail _ (.head _)); rfl; rfl
 apply qop; rfl; apply Pev.len_slice; rfl; exact yes; rfl
 apply qbn; rfl; rfl; rfl; apply Bin.sub_in; omega
 apply qop; rfl; apply Pev.idxB; rfl; exact yes; rfl; exact yes; rfl; intro hcond; omega; rfl
 rw [hI1]
 apply qop; rfl; apply Pev.load_row; rfl; exact yes; exact .tail _ (.tail _ (.head _)); rfl; assumption
 apply qas; rfl; rfl
 apply QL.nil
 with_reducible apply At.next
 apply W.seq
 (refine W.rega (lK := ?lK2) (by (repeat (first | exact Split.z rfl | apply Split.s rfl))) (by kernel_rfl) (by decide +kernel) rfl rfl (by (first | exact CellsL.one rfl | exact CellsL.agg)) (fun c0 bq hbq => ?_) ?_ ?_; rotate_left)
 ·have hbq0 := hbq.mem s0 hs0
  apply qmv; rfl; rfl
  apply qop; rfl; apply Pev.nil_ptr; rfl; exact yes
  apply qfa; rfl; rfl; rfl
  apply qfa; rfl; rfl; rfl
  apply qld; rfl; rfl; apply List.Mem.tail; apply List.Mem.tail; exact .tail _ (.tail _ (.head _)); rfl; rfl
  apply qmv; rfl; rfl
  apply qop; rfl; apply Pev.nil_ptr; rfl; exact yes
  apply qfa; rfl; rfl; rfl
  apply qld; rfl; rfl; exact .tail _ (.head _); rfl; rfl
  apply qop; rfl; apply Pev.idx; rfl; exact yes; rfl; exact yes; rfl; rfl; intro hcond; omega
  apply qop; rfl; apply Pev.fldA; rfl; exact yes; rfl
  apply qop; rfl; apply Pev.load_kept; rfl; exact yes; assumption; rfl; intro hcond; apply CellsAt.at_ (by assumption) rfl; intro hcond; (simp only [add_block]; assumption); intro hcond; (focus ((try simp only [add_block]); (repeat (first | exact NotOwned.nil | exact hno _ (by omega) | refine NotOwned.blk (by omega) ?_ | refine NotOwned.row (by omega) ?_ | refine NotOwned.rws (by omega) ?_ | refine NotOwned.pile (by omega) ?_ | refine NotOwned.pool (by omega) ?_ | refine NotOwned.bag (by omega) ?_ | refine NotOwned.mapI (by omega) ?_ | apply NotOwned.bif | refine NotOwned.nothing ?_)); done))
  apply qmv; rfl; rfl
  apply qop; rfl; apply Pev.nil_ptr; rfl; exact yes
  apply qfa; rfl; rfl; rfl
  apply qld; rfl; rfl; exact .tail _ (.head _); rfl; rfl
  apply qop; rfl; apply Pev.idx; rfl; exact yes; rfl; exact yes; rfl; rfl; intro hcond; omega
  apply qop; rfl; apply Pev.load_keptA; rfl; exact yes; assumption; rfl; intro hcond; assumption; rfl; intro hcond; (rw [add_block]; assumption); intro hcond; (focus ((try simp only [add_block]); (repeat (first | exact NotOwned.nil | exact hno _ (by omega) | refine NotOwned.blk (by omega) ?_ | refine NotOwned.row (by omega) ?_ | refine NotOwned.rws (by omega) ?_ | refine NotOwned.pile (by omega) ?_ | refine NotOwned.pool (by omega) ?_ | refine NotOwned.bag (by omega) ?_ | refine NotOwned.mapI (by omega) ?_ | apply NotOwned.bif | refine NotOwned.nothing ?_)); done))
  exact QL.sees
 ·rfl
 intro b3 hb3
 have hb30 := hb3.mem s0 hs0
 apply OL.storeB; rfl; rfl; exact CellsL.agg; rfl; rfl; rfl; exact Swap.au; exact Put.au
 apply OL.nx
 apply W.seq
 apply W.seq
 apply W.regd0; decide +kernel; kernel_rfl; decide +kernel; exact fun w hw => hw.drew
 apply qmv; rfl; rfl
 apply qop; rfl; apply Pev.nil_ptr; rfl; exact yes
 apply qfa; rfl; rfl; rfl
 apply qld; rfl; rfl; exact .tail _ (.head _); rfl; rfl
 apply qfa; rfl; rfl; rfl
 apply qld; rfl; rfl; exact .head _; rfl; rfl
 apply qop; rfl; apply Pev.len_slice; rfl; exact yes; rfl
 apply qbn; rfl; rfl; rfl; apply Bin.eql
 apply QL.nil
 with_reducible apply At.next
 obtain ⟨ips, hips, hia⟩ := hokB.i
 have hil := (List.getElem?_eq_some_iff.1 hi).1
 have hipl : ips.length = y.1.ins.length := by rw [← hips, List.length_map]
 obtain ⟨a3, iu, hq3, hab3, hiu, hcI, hokI⟩ := hia.get (show at_ < ips.length by omega)
 have hab3 : a3.block < s0.heap.size := hab3
 have hiu1 : iu.1 = i := by
  rw [← hips, List.getElem?_map, hiu] at hi
  exact Option.some.inj hi
 subst hiu1
 have hcI : CellsAt s0 (a3.add (at_ * 4)) [.int .i64 iu.1.to_, .int .i64 iu.1.op, .int .i64 iu.1.n, .slice iu.2.1 iu.1.args.length iu.2.2] := hcI
 have hal := (form_args hform).2.2.2.2.1
 refine W.cond rfl (fun h => by simp at h; omega) (fun _ => ?_)
 rw [hq3]
 apply W.sk
 apply W.seq
 (refine W.rega (lK := ?lK3) (by (repeat (first | exact Split.z rfl | apply Split.s rfl))) (by kernel_rfl) (by decide +kernel) rfl rfl (by (first | exact CellsL.one rfl | exact CellsL.agg)) (fun c0 bq hbq => ?_) ?_ ?_; rotate_left)
 ·have hbq0 := hbq.mem s0 hs0
  apply qfa; rfl; rfl; rfl
  apply qld; rfl; rfl; exact .tail _ (.head _); rfl; rfl
  apply qmv; rfl; rfl
  apply qop; rfl; apply Pev.nil_ptr; rfl; exact yes
  apply qfa; rfl; rfl; rfl
  apply qld; rfl; rfl; exact .tail _ (.tail _ (.head _)); rfl; rfl
  apply qop; rfl; apply Pev.idx; rfl; exact yes; rfl; exact yes; rfl; rfl; intro hcond; omega
  apply qop; rfl; apply Pev.load_keptA; rfl; exact yes; assumption; rfl; intro hcond; assumption; rfl; intro hcond; (rw [add_block]; assumption); intro hcond; (focus ((try simp only [add_block]); (repeat (first | exact NotOwned.nil | exact hno _ (by omega) | refine NotOwned.blk (by omega) ?_ | refine NotOwned.row (by omega) ?_ | refine NotOwned.rws (by omega) ?_ | refine NotOwned.pile (by omega) ?_ | refine NotOwned.pool (by omega) ?_ | refine NotOwned.bag (by omega) ?_ | refine NotOwned.mapI (by omega) ?_ | apply NotOwned.bif | refine NotOwned.nothing ?_)); done))
  exact QL.sees
 ·rfl
 intro b4 hb4
 have hb40 := hb4.mem s0 hs0
 apply OL.storeB; rfl; rfl; exact CellsL.agg; rfl; rfl; rfl; exact Swap.au; exact Put.au
 apply OL.nsr
 apply omv; rfl; rfl
 apply oop; rfl; apply Pev.nil_ptr; rfl; exact yes
 apply ofa; rfl; rfl; rfl
 apply old; rfl; rfl; exact .tail _ (.tail _ (.head _)); rfl; rfl
 apply obn; rfl; rfl; rfl; apply Bin.add_in; omega
 apply oop; rfl; apply Pev.nil_ptr; rfl; exact yes
 apply ofa; rfl; rfl; rfl
 apply OL.storeB; rfl; rfl; exact CellsL.one rfl; rfl; rfl; rfl; exact Swap.au; exact Put.au
 apply OL.nsr
 apply omv; rfl; rfl
 apply ofa; rfl; rfl; rfl
 apply old; rfl; rfl; exact .head _; rfl; rfl
 obtain ⟨vs, hvs⟩ : ∃ vs, iu.1.args.map (pget mp) = vs := ⟨_, rfl⟩
 have hvl : vs.length = iu.1.args.length := by rw [← hvs, List.length_map]
 rw [hvs] at hE hin ⊢
 refine OL.callE (α := Nat) (fun c => .slice (some ⟨c, 0, none⟩) iu.1.args.length iu.1.args.length) (fun c => AllLe S c) (fun c => Cls (blk c 198 (cat pC vs) :: blk b4 85 [.int .i64 iu.1.to_, .int .i64 iu.1.op, .int .i64 iu.1.n, .slice iu.2.1 iu.1.args.length iu.2.2] :: blk b3 41 [.slice y.2.p.1 y.1.params.length y.2.p.2, .slice (some a3) y.1.ins.length y.2.i.2, .int .i64 y.1.term.kind, .int .i64 y.1.term.arg, .int .i64 y.1.term.n, .slice y.2.t.c.1 y.1.term.cases.length y.2.t.c.2, .slice y.2.t.t.1 y.1.term.to_.length y.2.t.t.2] :: blk bf 195 [.int .i64 (fn : Int), .int .i64 (bk : Int), .int .i64 ((at_ : Int) + 1), .int .i64 to_, .map (some bp)] :: mapI bp (mc mp) :: row s0.heap.size Os (some ⟨gs, 0, none⟩) (ps.length + 1) cs 192 1 (ptrs (ps ++ [bf])) :: blk bm 160 [.slice (some a) fns.length cF, .int .i64 main, .slice (some ⟨gs, 0, none⟩) (ps.length + 1) cs, .int .i64 left, .bool sh, .bool ov, .slice qo no co, .int .i64 en, .int .i64 va] :: row s0.heap.size Oo qo no co 3 1 (ints out) :: pool (pvR pF) s0.heap.size Op L :: bag s0.heap.size (arI A) :: H) S) rfl rfl (by exact Args.au) (fun w2 hw2 => (take_calls bf bp fn bk (at_ + 1) to_ mp iu.2.1 iu.2.2 iu.1.args _ S s0 hs0 (fun k hk => NotOwned.blk (by omega) (NotOwned.blk (by omega) (NotOwned.row (by omega) (NotOwned.blk (by omega) (NotOwned.row (by omega) (NotOwned.pool (by omega) (NotOwned.bag (by omega) (hno k hk)))))))) hbf0 hbp0 (by omega) hokI.a w2 hw2.p22).mono fun e w3 ⟨c, h1, h2, h3⟩ => ⟨c, h2, h1, by rw [hvs] at h3; exact h3.perm (.cons _ (List.Perm.append_right _ (List.perm_append_comm (l₁ := [_, _]) (l₂ := [_, _]))))⟩) ?_
 intro bt hbt
 have hbt0 := hbt.mem s0 hs0
 apply oas; rfl; rfl
 apply OL.nsr
 apply ofa; rfl; rfl; rfl
 apply old; rfl; rfl; exact .tail _ (.head _); rfl; rfl
 apply OL.nx
 apply W.block
 apply W.sr
 apply obn; rfl; rfl; rfl; apply Bin.eql
 apply oas; rfl; rfl
 apply OL.nx
 have hbs : ∃ s ∈ S, s0.heap.size ≤ s.heap.size := ⟨s0, hs0, Nat.le_refl _⟩
 refine W.cnd ?_ ?_ <;> intro e13 <;> try exact zwx e13
 ·obtain ⟨f1, f2⟩ := hf2 (.inl e13)
  obtain ⟨g1, g2⟩ := h13 e13
  apply W.reg
  apply omv; rfl; rfl
  apply ofa; rfl; rfl; rfl
  apply old; rfl; rfl; exact .tail _ (.head _); rfl; rfl
  apply omv; rfl; rfl
  apply ofa; rfl; rfl; rfl
  apply old; rfl; rfl; exact .tail _ (.head _); rfl; rfl
  rw [g1]
  refine OL.callE (α := (Nat × Nat × Nat) × (Nat → Prop) × Option Addr) (fun _ => .tuple #[]) (fun u => s0.heap.size ≤ u.1.1 ∧ s0.heap.size ≤ u.1.2.1) (fun u => Cls (blk u.1.1 195 (frC fn2 0 0 iu.1.to_ u.1.2.1) :: mapI u.1.2.1 (mc (pputs [] b2.params vs)) :: blk bm 160 [.slice (some a) fns.length cF, .int .i64 main, .slice u.2.2 (ps.length + 1 + 1) u.1.2.2, .int .i64 left, .bool sh, .bool ov, .slice qo no co, .int .i64 en, .int .i64 va] :: row s0.heap.size u.2.1 u.2.2 (ps.length + 1 + 1) u.1.2.2 192 1 (ptrs ((ps ++ [bf]) ++ [u.1.1])) :: blk bt 198 (cat pC vs) :: blk b4 85 [.int .i64 iu.1.to_, .int .i64 iu.1.op, .int .i64 (fn2 : Int), .slice iu.2.1 iu.1.args.length iu.2.2] :: blk b3 41 [.slice y.2.p.1 y.1.params.length y.2.p.2, .slice (some a3) y.1.ins.length y.2.i.2, .int .i64 y.1.term.kind, .int .i64 y.1.term.arg, .int .i64 y.1.term.n, .slice y.2.t.c.1 y.1.term.cases.length y.2.t.c.2, .slice y.2.t.t.1 y.1.term.to_.length y.2.t.t.2] :: blk bf 195 [.int .i64 (fn : Int), .int .i64 (bk : Int), .int .i64 ((at_ : Int) + 1), .int .i64 to_, .map (some bp)] :: mapI bp (mc mp) :: row s0.heap.size Oo qo no co 3 1 (ints out) :: pool (pvR pF) s0.heap.size Op L :: bag s0.heap.size (arI A) :: H) S) rfl rfl (by exact Args.au) (fun w2 hw2 => by
   have h := enter_calls s0 fns bm ⟨some a, fns.length, cF, main, some ⟨gs, 0, none⟩, ps.length + 1, cs, left, sh, ov, qo, no, co, en, va⟩ hu rfl fn2 p2 f1 b2 f2 vs (some ⟨bt, 0, none⟩) iu.1.args.length bt (by omega) (by omega) iu.1.to_ _ S hs0 (fun k hk => NotOwned.blk (by omega) (NotOwned.blk (by omega) (NotOwned.blk (by omega) (NotOwned.blk (by omega) (NotOwned.mapI (by omega) (NotOwned.row (by omega) (NotOwned.pool (by omega) (NotOwned.bag (by omega) (hno k hk))))))))) hbm0 (fun _ => ⟨rfl, .head _⟩) Os s0.heap.size hbs (Nat.le_refl _) (ps ++ [bf]) (by simp) (by simp only; omega) w2 hw2.q7
   rw [hvl] at h
   exact h.mono fun e w3 ⟨bf2, bp2, c', O', q', ⟨h1, h2⟩, h3, h4⟩ => ⟨((bf2, bp2, c'), O', q'), h3, ⟨h1.mem s0 hs0, h2.mem s0 hs0⟩, h4⟩) ?_
  intro y2 hy2
  apply OL.nil
  with_reducible apply At.in_normal
  refine At.end_ (At.fin0 rfl (fun w' hw' => ⟨rfl, .inl ⟨e13, y2.1.1, y2.1.2.1, y2.1.2.2, y2.2.1, y2.2.2, hy2, ?_⟩⟩))
  rw [show ps ++ [bf, y2.1.1] = (ps ++ [bf]) ++ [y2.1.1] by simp]
  exact (hw'.thin (.keep (.keep (.keep (.keep (.any (fun k hk => by rw [show k = bt from hk]; exact hbt) (.any (fun k hk => by rw [show k = b4 from hk]; exact hb4) (.any (fun k hk => by rw [show k = b3 from hk]; exact hb3) Thin.same)))))))).ent
 apply W.sr
 apply obn; rfl; rfl; rfl; apply Bin.eql
 apply oas; rfl; rfl
 apply OL.nx
 obtain ⟨a0, ha0⟩ : ∃ a0, pget mp (iu.1.args.getD 0 0) = a0 := ⟨_, rfl⟩
 rw [ha0] at hf2 h14 hclo
 refine W.cnd ?_ ?_ <;> intro e14 <;> try exact zwx e14
 ·obtain ⟨_, _, _, fz, _, _, _⟩ := form_zero hform
  have hl0 := fz e14
  have hv0 : vs[0]? = some a0 := by
   rw [← hvs, List.getElem?_map, ← ha0, List.getD_eq_getElem?_getD, List.getElem?_eq_getElem (by omega : 0 < iu.1.args.length)]
   rfl
  apply W.sr
  apply omv; rfl; rfl
  apply oop; rfl; apply Pev.idxB; rfl; exact yes; rfl; exact yes; rfl; intro hcond; omega; rfl
  (((first | apply OL.op | apply QL.op); exact Guard.au; rfl; rfl); (exact Pev.load_blkE (vs := pC a0) rfl g_c (by exact mau) rfl rfl (fun _ jj x hj => by have := cat_get (f := pC) (sz := 4) (fun _ => rfl) hv0 jj x hj; exact this)))
  apply OL.alloc; rfl; rfl; exact CellsL.agg; (intro bk hbk; have hbk0 := hbk.mem s0 hs0)
  apply OL.storeB; rfl; rfl; exact CellsL.agg; rfl; rfl; rfl; exact Swap.au; exact Put.au
  apply OL.nx
  apply W.seq
  apply W.regd0; decide +kernel; kernel_rfl; decide +kernel; exact fun w hw => hw.drew
  apply qfa; rfl; rfl; rfl
  apply qld; rfl; rfl; exact .head _; rfl; rfl
  apply qbn; rfl; rfl; rfl; apply Bin.eql
  apply qmv; rfl; rfl
  apply qy; rfl; rfl; rfl; apply Pev.move; rfl; exact yes
  apply qy; rfl; rfl; rfl; apply Pev.nil_ptr; rfl; exact fun h => h
  apply qy; rfl; rfl; rfl; apply Pev.fld; rfl; exact fun h => h; rfl
  apply qy; rfl; rfl; rfl; apply Pev.fld; rfl; exact fun h => h; rfl
  apply qy; rfl; rfl; rfl; apply Pev.load_blk; rfl; exact fun h => h; apply List.Mem.tail; apply List.Mem.tail; apply List.Mem.tail; apply List.Mem.tail; apply List.Mem.tail; exact .tail _ (.tail _ (.head _)); rfl; rfl
  apply qy; rfl; rfl; rfl; apply Pev.fld; rfl; exact yes; rfl
  apply qy; rfl; rfl; rfl; apply Pev.load_blk; rfl; exact fun h => h; exact .head _; rfl; rfl
  revert hbk0
  revert bk
  intro b6 hb6 hb60
  by_cases hk2 : a0.k = 2
  ·obtain ⟨f1, f2⟩ := hf2 (.inr ⟨e14, hk2⟩)
   have n0 := h14 e14 hk2
   obtain ⟨a', z2, hqa2, _, hz2, hcF2, hok2⟩ := hu.get (show fn2 < fns.length from (List.getElem?_eq_some_iff.1 f1).1)
   obtain rfl := Option.some.inj hqa2
   rw [f1] at hz2
   obtain rfl := Option.some.inj hz2
   have hfl2 := (List.getElem?_eq_some_iff.1 f1).1
   have hcF2 : CellsAt s0 (a.add (fn2 * 2)) [.int .i64 p2.1.name, .slice p2.2.q p2.1.blocks.length p2.2.c] := hcF2
   obtain ⟨es2, hes2, he2⟩ := hok2.b
   have hbl2 := (List.getElem?_eq_some_iff.1 f2).1
   have hel2 : es2.length = p2.1.blocks.length := by rw [← hes2, List.length_map]
   obtain ⟨a4, y4, hq4, hab4, hy4, hcB4, _⟩ := he2.get (show 0 < es2.length by omega)
   have hyb4 : y4.1 = b2 := by
    rw [← hes2, List.getElem?_map, hy4] at f2
    exact Option.some.inj f2
   have hab4 : a4.block < s0.heap.size := hab4
   have hcB4 : CellsAt s0 (a4.add (0 * 7)) [.slice y4.2.p.1 y4.1.params.length y4.2.p.2, .slice y4.2.i.1 y4.1.ins.length y4.2.i.2, .int .i64 y4.1.term.kind, .int .i64 y4.1.term.arg, .int .i64 y4.1.term.n, .slice y4.2.t.c.1 y4.1.term.cases.length y4.2.t.c.2, .slice y4.2.t.t.1 y4.1.term.to_.length y4.2.t.t.2] := hcB4
   rw [hyb4] at hcB4
   rw [hq4] at hcF2
   rw [hk2, n0]
   apply qy; rfl; rfl; rfl; apply Pev.idx; rfl; exact yes; rfl; exact yes; rfl; rfl; intro hcond; omega
   apply qy; rfl; rfl; rfl; apply Pev.fldA; rfl; exact yes; rfl
   apply qy; rfl; rfl; rfl; apply Pev.load_kept; rfl; exact yes; assumption; rfl; intro hcond; apply CellsAt.at_ (by assumption) rfl; intro hcond; (simp only [add_block]; assumption); intro hcond; (focus ((try simp only [add_block]); (repeat (first | exact NotOwned.nil | exact hno _ (by omega) | refine NotOwned.blk (by omega) ?_ | refine NotOwned.row (by omega) ?_ | refine NotOwned.rws (by omega) ?_ | refine NotOwned.pile (by omega) ?_ | refine NotOwned.pool (by omega) ?_ | refine NotOwned.bag (by omega) ?_ | refine NotOwned.mapI (by omega) ?_ | apply NotOwned.bif | refine NotOwned.nothing ?_)); done))
   apply qy; rfl; rfl; rfl; apply Pev.idx; rfl; exact yes; rfl; exact yes; rfl; rfl; intro hcond; omega
   apply qy; rfl; rfl; rfl; apply Pev.fldA; rfl; exact yes; rfl
   apply qy; rfl; rfl; rfl; apply Pev.load_kept; rfl; exact yes; assumption; rfl; intro hcond; apply CellsAt.at_ (by assumption) rfl; intro hcond; assumption; intro hcond; (focus ((try simp only [add_block]); (repeat (first | exact NotOwned.nil | exact hno _ (by omega) | refine NotOwned.blk (by omega) ?_ | refine NotOwned.row (by omega) ?_ | refine NotOwned.rws (by omega) ?_ | refine NotOwned.pile (by omega) ?_ | refine NotOwned.pool (by omega) ?_ | refine NotOwned.bag (by omega) ?_ | refine NotOwned.mapI (by omega) ?_ | apply NotOwned.bif | refine NotOwned.nothing ?_)); done))
   apply qy; rfl; rfl; rfl; apply Pev.len_slice; rfl; exact yes; rfl
   apply qy; rfl; rfl; rfl; apply Pev.move; rfl; exact yes
   apply qy; rfl; rfl; rfl; apply Pev.len_slice; rfl; exact yes; rfl
   apply qy; rfl; rfl; rfl; apply Pev.bin; rfl; exact yes; rfl; exact yes; intro hcond; apply Bin.eql
   apply qop; rfl; apply Pev.pick_and; rfl; exact yes; rfl; exact yes
   apply QL.nil
   with_reducible apply At.next
   by_cases hlen : b2.params.length = iu.1.args.length
   ·refine W.cond rfl (fun _ => ?_) (fun h => by simp at h; omega)
    apply W.reg
    apply omv; rfl; rfl
    apply ofa; rfl; rfl; rfl
    apply old; rfl; rfl; exact .head _; rfl; rfl
    apply omv; rfl; rfl
    apply ofa; rfl; rfl; rfl
    apply old; rfl; rfl; exact .tail _ (.tail _ (.head _)); rfl; rfl
    refine OL.cls (C' := Cls (blk bt 198 (cat pC vs) :: blk b4 85 [.int .i64 iu.1.to_, .int .i64 iu.1.op, .int .i64 iu.1.n, .slice iu.2.1 iu.1.args.length iu.2.2] :: blk b3 41 [.slice y.2.p.1 y.1.params.length y.2.p.2, .slice (some a3) y.1.ins.length y.2.i.2, .int .i64 y.1.term.kind, .int .i64 y.1.term.arg, .int .i64 y.1.term.n, .slice y.2.t.c.1 y.1.term.cases.length y.2.t.c.2, .slice y.2.t.t.1 y.1.term.to_.length y.2.t.t.2] :: blk bf 195 [.int .i64 (fn : Int), .int .i64 (bk : Int), .int .i64 ((at_ : Int) + 1), .int .i64 to_, .map (some bp)] :: mapI bp (mc mp) :: row s0.heap.size Os (some ⟨gs, 0, none⟩) (ps.length + 1) cs 192 1 (ptrs (ps ++ [bf])) :: blk bm 160 [.slice (some a) fns.length cF, .int .i64 main, .slice (some ⟨gs, 0, none⟩) (ps.length + 1) cs, .int .i64 left, .bool sh, .bool ov, .slice qo no co, .int .i64 en, .int .i64 va] :: row s0.heap.size Oo qo no co 3 1 (ints out) :: pool (pvR pF) s0.heap.size Op L :: bag s0.heap.size (arI A) :: H) S) (fun w2 hw2 => hw2.thin (.any (fun k hk => by rw [show k = b6 from hk]; exact hb6) Thin.same)) ?_
    refine OL.callE (α := (Nat × Nat × Nat) × (Nat → Prop) × Option Addr) (fun _ => .tuple #[]) (fun u => s0.heap.size ≤ u.1.1 ∧ s0.heap.size ≤ u.1.2.1) (fun u => Cls (blk u.1.1 195 (frC fn2 0 0 iu.1.to_ u.1.2.1) :: mapI u.1.2.1 (mc (pputs [] b2.params vs)) :: blk bm 160 [.slice (some a) fns.length cF, .int .i64 main, .slice u.2.2 (ps.length + 1 + 1) u.1.2.2, .int .i64 left, .bool sh, .bool ov, .slice qo no co, .int .i64 en, .int .i64 va] :: row s0.heap.size u.2.1 u.2.2 (ps.length + 1 + 1) u.1.2.2 192 1 (ptrs ((ps ++ [bf]) ++ [u.1.1])) :: blk bt 198 (cat pC vs) :: blk b4 85 [.int .i64 iu.1.to_, .int .i64 iu.1.op, .int .i64 iu.1.n, .slice iu.2.1 iu.1.args.length iu.2.2] :: blk b3 41 [.slice y.2.p.1 y.1.params.length y.2.p.2, .slice (some a3) y.1.ins.length y.2.i.2, .int .i64 y.1.term.kind, .int .i64 y.1.term.arg, .int .i64 y.1.term.n, .slice y.2.t.c.1 y.1.term.cases.length y.2.t.c.2, .slice y.2.t.t.1 y.1.term.to_.length y.2.t.t.2] :: blk bf 195 [.int .i64 (fn : Int), .int .i64 (bk : Int), .int .i64 ((at_ : Int) + 1), .int .i64 to_, .map (some bp)] :: mapI bp (mc mp) :: row s0.heap.size Oo qo no co 3 1 (ints out) :: pool (pvR pF) s0.heap.size Op L :: bag s0.heap.size (arI A) :: H) S) rfl rfl (by exact Args.au) (fun w2 hw2 => by
     have h := enter_calls s0 fns bm ⟨some a, fns.length, cF, main, some ⟨gs, 0, none⟩, ps.length + 1, cs, left, sh, ov, qo, no, co, en, va⟩ hu rfl fn2 p2 f1 b2 f2 vs (some ⟨bt, 0, none⟩) iu.1.args.length bt (by omega) (by omega) iu.1.to_ _ S hs0 (fun k hk => NotOwned.blk (by omega) (NotOwned.blk (by omega) (NotOwned.blk (by omega) (NotOwned.blk (by omega) (NotOwned.mapI (by omega) (NotOwned.row (by omega) (NotOwned.pool (by omega) (NotOwned.bag (by omega) (hno k hk))))))))) hbm0 (fun _ => ⟨rfl, .head _⟩) Os s0.heap.size hbs (Nat.le_refl _) (ps ++ [bf]) (by simp) (by simp only; omega) w2 hw2.q7
     rw [hvl] at h
     exact h.mono fun e w3 ⟨bf2, bp2, c', O', q', ⟨h1, h2⟩, h3, h4⟩ => ⟨((bf2, bp2, c'), O', q'), h3, ⟨h1.mem s0 hs0, h2.mem s0 hs0⟩, h4⟩) ?_
    intro y2 hy2
    apply OL.nil
    with_reducible apply At.in_normal
    refine At.end_ (At.fin0 rfl (fun w' hw' => ⟨rfl, .inr (.inl ⟨e14, hclo.2 ⟨hk2, hlen⟩, y2.1.1, y2.1.2.1, y2.1.2.2, y2.2.1, y2.2.2, hy2, ?_⟩)⟩))
    rw [show ps ++ [bf, y2.1.1] = (ps ++ [bf]) ++ [y2.1.1] by simp]
    exact (hw'.thin (.keep (.keep (.keep (.keep (.any (fun k hk => by rw [show k = bt from hk]; exact hbt) (.any (fun k hk => by rw [show k = b4 from hk]; exact hb4) (.any (fun k hk => by rw [show k = b3 from hk]; exact hb3) Thin.same)))))))).ent
   ·refine W.cond rfl (fun h => by simp at h; omega) (fun _ => ?_)
    have hcf : clo = false := by
     cases hcl : clo with
     | false => rfl
     | true => exact absurd (hclo.1 hcl).2 hlen
    apply W.reg
    apply omv; rfl; rfl
    refine OL.cls (C' := Cls (blk bt 198 (cat pC vs) :: blk b4 85 [.int .i64 iu.1.to_, .int .i64 iu.1.op, .int .i64 iu.1.n, .slice iu.2.1 iu.1.args.length iu.2.2] :: blk b3 41 [.slice y.2.p.1 y.1.params.length y.2.p.2, .slice (some a3) y.1.ins.length y.2.i.2, .int .i64 y.1.term.kind, .int .i64 y.1.term.arg, .int .i64 y.1.term.n, .slice y.2.t.c.1 y.1.term.cases.length y.2.t.c.2, .slice y.2.t.t.1 y.1.term.to_.length y.2.t.t.2] :: blk bf 195 [.int .i64 (fn : Int), .int .i64 (bk : Int), .int .i64 ((at_ : Int) + 1), .int .i64 to_, .map (some bp)] :: mapI bp (mc mp) :: row s0.heap.size Os (some ⟨gs, 0, none⟩) (ps.length + 1) cs 192 1 (ptrs (ps ++ [bf])) :: blk bm 160 [.slice (some a) fns.length cF, .int .i64 main, .slice (some ⟨gs, 0, none⟩) (ps.length + 1) cs, .int .i64 left, .bool sh, .bool ov, .slice qo no co, .int .i64 en, .int .i64 va] :: row s0.heap.size Oo qo no co 3 1 (ints out) :: pool (pvR pF) s0.heap.size Op L :: bag s0.heap.size (arI A) :: H) S) (fun w2 hw2 => hw2.thin (.any (fun k hk => by rw [show k = b6 from hk]; exact hb6) Thin.same)) ?_
    refine OL.callE (α := Unit) (fun _ => .tuple #[]) (fun _ => True) (fun _ => Cls (blk bt 198 (cat pC vs) :: blk b4 85 [.int .i64 iu.1.to_, .int .i64 iu.1.op, .int .i64 iu.1.n, .slice iu.2.1 iu.1.args.length iu.2.2] :: blk b3 41 [.slice y.2.p.1 y.1.params.length y.2.p.2, .slice (some a3) y.1.ins.length y.2.i.2, .int .i64 y.1.term.kind, .int .i64 y.1.term.arg, .int .i64 y.1.term.n, .slice y.2.t.c.1 y.1.term.cases.length y.2.t.c.2, .slice y.2.t.t.1 y.1.term.to_.length y.2.t.t.2] :: blk bf 195 [.int .i64 (fn : Int), .int .i64 (bk : Int), .int .i64 ((at_ : Int) + 1), .int .i64 to_, .map (some bp)] :: mapI bp (mc mp) :: row s0.heap.size Os (some ⟨gs, 0, none⟩) (ps.length + 1) cs 192 1 (ptrs (ps ++ [bf])) :: blk bm 160 [.slice (some a) fns.length cF, .int .i64 main, .slice (some ⟨gs, 0, none⟩) (ps.length + 1) cs, .int .i64 left, .bool sh, .bool true, .slice qo no co, .int .i64 5, .int .i64 0] :: row s0.heap.size Oo qo no co 3 1 (ints out) :: pool (pvR pF) s0.heap.size Op L :: bag s0.heap.size (arI A) :: H) S) rfl rfl (by exact Args.au) (fun w2 hw2 => (stop_calls bm ⟨some a, fns.length, cF, main, some ⟨gs, 0, none⟩, ps.length + 1, cs, left, sh, ov, qo, no, co, en, va⟩ 5 0 _ S w2 (hw2.perm (List.perm_middle (l₁ := [_, _, _, _, _, _]) (l₂ := _)))).mono fun e w3 h => ⟨(), h.1, trivial, h.2.perm (List.perm_middle (l₁ := [_, _, _, _, _, _]) (l₂ := _)).symm⟩) ?_
    intro _ _
    apply OL.nil
    with_reducible apply At.in_normal
    exact At.end_ (At.fin0 rfl (fun w' hw' => ⟨rfl, .inr (.inr (.inl ⟨e14, hcf, hw'.thin (.any (fun k hk => by rw [show k = bt from hk]; exact hbt) (.any (fun k hk => by rw [show k = b4 from hk]; exact hb4) (.any (fun k hk => by rw [show k = b3 from hk]; exact hb3) Thin.same)))⟩))⟩))
  ·have hne : NotEqI a0.k 2 := hk2
   have hcf : clo = false := by
    cases hcl : clo with
    | false => rfl
    | true => exact absurd (hclo.1 hcl).1 hk2
   apply qy; rfl; rfl; rfl; apply Pev.idxI; rfl; exact fun h => h; rfl; exact fun h => h; rfl; intro hcond; (simp only [Bool.and_eq_true, Bool.or_eq_true, Bool.not_eq_true', decide_eq_true_eq, decide_eq_false_iff_not] at hcond; omega)
   apply qy; rfl; rfl; rfl; apply Pev.fldA; rfl; exact fun h => h; rfl
   apply QL.gateOff; exact Guard.yes rfl rfl; (simp; omega); rfl
   apply QL.gateOff; exact Guard.yes rfl rfl; (simp; omega); rfl
   apply QL.gateOff; exact Guard.yes rfl rfl; (simp; omega); rfl
   apply QL.gateOff; exact Guard.yes rfl rfl; (simp; omega); rfl
   apply QL.gateOff; exact Guard.yes rfl rfl; (simp; omega); rfl
   apply qy; rfl; rfl; rfl; apply Pev.move; rfl; exact yes
   apply qy; rfl; rfl; rfl; apply Pev.len_slice; rfl; exact fun h => h; rfl
   apply QL.gateOff; exact Guard.yes rfl rfl; (simp; omega); rfl
   apply qop; rfl; apply Pev.pick_off; rfl; exact yes; (intro hcond; simp; omega); rfl; exact yes
   apply QL.nil
   with_reducible apply At.next
   refine W.cond rfl (fun h => by simp at h) (fun _ => ?_)
   apply W.reg
   apply omv; rfl; rfl
   refine OL.cls (C' := Cls (blk bt 198 (cat pC vs) :: blk b4 85 [.int .i64 iu.1.to_, .int .i64 iu.1.op, .int .i64 iu.1.n, .slice iu.2.1 iu.1.args.length iu.2.2] :: blk b3 41 [.slice y.2.p.1 y.1.params.length y.2.p.2, .slice (some a3) y.1.ins.length y.2.i.2, .int .i64 y.1.term.kind, .int .i64 y.1.term.arg, .int .i64 y.1.term.n, .slice y.2.t.c.1 y.1.term.cases.length y.2.t.c.2, .slice y.2.t.t.1 y.1.term.to_.length y.2.t.t.2] :: blk bf 195 [.int .i64 (fn : Int), .int .i64 (bk : Int), .int .i64 ((at_ : Int) + 1), .int .i64 to_, .map (some bp)] :: mapI bp (mc mp) :: row s0.heap.size Os (some ⟨gs, 0, none⟩) (ps.length + 1) cs 192 1 (ptrs (ps ++ [bf])) :: blk bm 160 [.slice (some a) fns.length cF, .int .i64 main, .slice (some ⟨gs, 0, none⟩) (ps.length + 1) cs, .int .i64 left, .bool sh, .bool ov, .slice qo no co, .int .i64 en, .int .i64 va] :: row s0.heap.size Oo qo no co 3 1 (ints out) :: pool (pvR pF) s0.heap.size Op L :: bag s0.heap.size (arI A) :: H) S) (fun w2 hw2 => hw2.thin (.any (fun k hk => by rw [show k = b6 from hk]; exact hb6) Thin.same)) ?_
   refine OL.callE (α := Unit) (fun _ => .tuple #[]) (fun _ => True) (fun _ => Cls (blk bt 198 (cat pC vs) :: blk b4 85 [.int .i64 iu.1.to_, .int .i64 iu.1.op, .int .i64 iu.1.n, .slice iu.2.1 iu.1.args.length iu.2.2] :: blk b3 41 [.slice y.2.p.1 y.1.params.length y.2.p.2, .slice (some a3) y.1.ins.length y.2.i.2, .int .i64 y.1.term.kind, .int .i64 y.1.term.arg, .int .i64 y.1.term.n, .slice y.2.t.c.1 y.1.term.cases.length y.2.t.c.2, .slice y.2.t.t.1 y.1.term.to_.length y.2.t.t.2] :: blk bf 195 [.int .i64 (fn : Int), .int .i64 (bk : Int), .int .i64 ((at_ : Int) + 1), .int .i64 to_, .map (some bp)] :: mapI bp (mc mp) :: row s0.heap.size Os (some ⟨gs, 0, none⟩) (ps.length + 1) cs 192 1 (ptrs (ps ++ [bf])) :: blk bm 160 [.slice (some a) fns.length cF, .int .i64 main, .slice (some ⟨gs, 0, none⟩) (ps.length + 1) cs, .int .i64 left, .bool sh, .bool true, .slice qo no co, .int .i64 5, .int .i64 0] :: row s0.heap.size Oo qo no co 3 1 (ints out) :: pool (pvR pF) s0.heap.size Op L :: bag s0.heap.size (arI A) :: H) S) rfl rfl (by exact Args.au) (fun w2 hw2 => (stop_calls bm ⟨some a, fns.length, cF, main, some ⟨gs, 0, none⟩, ps.length + 1, cs, left, sh, ov, qo, no, co, en, va⟩ 5 0 _ S w2 (hw2.perm (List.perm_middle (l₁ := [_, _, _, _, _, _]) (l₂ := _)))).mono fun e w3 h => ⟨(), h.1, trivial, h.2.perm (List.perm_middle (l₁ := [_, _, _, _, _, _]) (l₂ := _)).symm⟩) ?_
   intro _ _
   apply OL.nil
   with_reducible apply At.in_normal
   exact At.end_ (At.fin0 rfl (fun w' hw' => ⟨rfl, .inr (.inr (.inl ⟨e14, hcf, hw'.thin (.any (fun k hk => by rw [show k = bt from hk]; exact hbt) (.any (fun k hk => by rw [show k = b4 from hk]; exact hb4) (.any (fun k hk => by rw [show k = b3 from hk]; exact hb3) Thin.same)))⟩))⟩))
 apply W.sr
 apply omv; rfl; rfl
 apply oop; rfl; apply Pev.load_blkA; rfl; exact yes; exact .tail _ (.head _); rfl; exact Take.au
 apply omv; rfl; rfl
 refine OL.callE (α := PV × Int × XS) (fun u => .tuple #[.agg (pC u.1).toArray, .int .i64 u.2.1]) (fun u => ExQ (insP iu.1.op iu.1.n svs sA out) ⟨⟨some a, fns.length, cF, main, some ⟨gs, 0, none⟩, ps.length + 1, cs, left, sh, ov, qo, no, co, en, va⟩, out, Oo, L, Op, A⟩ u.2.2 u.1 u.2.1) (fun u => Cls (xI s0.heap.size bm u.2.2 (blk b4 85 [.int .i64 iu.1.to_, .int .i64 iu.1.op, .int .i64 iu.1.n, .slice iu.2.1 iu.1.args.length iu.2.2] :: blk b3 41 [.slice y.2.p.1 y.1.params.length y.2.p.2, .slice (some a3) y.1.ins.length y.2.i.2, .int .i64 y.1.term.kind, .int .i64 y.1.term.arg, .int .i64 y.1.term.n, .slice y.2.t.c.1 y.1.term.cases.length y.2.t.c.2, .slice y.2.t.t.1 y.1.term.to_.length y.2.t.t.2] :: blk bf 195 [.int .i64 (fn : Int), .int .i64 (bk : Int), .int .i64 ((at_ : Int) + 1), .int .i64 to_, .map (some bp)] :: mapI bp (mc mp) :: row s0.heap.size Os (some ⟨gs, 0, none⟩) (ps.length + 1) cs 192 1 (ptrs (ps ++ [bf])) :: H)) S) rfl rfl (by exact Args.au) (fun w2 hw2 => by
  have h := exec_calls bm iu.1 iu.2 hform ⟨e13, e14⟩ vs svs ⟨⟨some a, fns.length, cF, main, some ⟨gs, 0, none⟩, ps.length + 1, cs, left, sh, ov, qo, no, co, en, va⟩, out, Oo, L, Op, A⟩ sA hx hvl bt hE hin nf hwf (blk b4 85 [.int .i64 iu.1.to_, .int .i64 iu.1.op, .int .i64 iu.1.n, .slice iu.2.1 iu.1.args.length iu.2.2] :: blk b3 41 [.slice y.2.p.1 y.1.params.length y.2.p.2, .slice (some a3) y.1.ins.length y.2.i.2, .int .i64 y.1.term.kind, .int .i64 y.1.term.arg, .int .i64 y.1.term.n, .slice y.2.t.c.1 y.1.term.cases.length y.2.t.c.2, .slice y.2.t.t.1 y.1.term.to_.length y.2.t.t.2] :: blk bf 195 [.int .i64 (fn : Int), .int .i64 (bk : Int), .int .i64 ((at_ : Int) + 1), .int .i64 to_, .map (some bp)] :: mapI bp (mc mp) :: row s0.heap.size Os (some ⟨gs, 0, none⟩) (ps.length + 1) cs 192 1 (ptrs (ps ++ [bf])) :: H) S s0 hs0 w2 (hw2.perm (.cons _ (List.Perm.append_right H (List.perm_append_comm (l₁ := [_, _, _, _, _]) (l₂ := [_, _, _, _])))))
  rw [hvl] at h
  refine h.mono fun e w3 ⟨v, t, x', h1, h2, h3⟩ => ?_
  obtain ⟨x2, g1, g2, _, _⟩ := ExR.settle (bm := bm) (s0 := s0) hbt hbt0 (by omega) hin h2 h3
  exact ⟨(v, t, x2), h1, g1, g2⟩) ?_
 rintro ⟨v, t, x2⟩ hQ
 simp only at hQ ⊢
 unfold xI
 apply omv; rfl; rfl
 apply oex; rfl; rfl; rfl
 apply oex; rfl; rfl; rfl
 apply OL.alloc; rfl; rfl; exact CellsL.agg; (intro bk hbk; have hbk0 := hbk.mem s0 hs0)
 apply OL.storeB; rfl; rfl; exact CellsL.agg; rfl; rfl; rfl; exact Swap.au; exact Put.au
 apply oas; rfl; rfl
 apply OL.nx
 apply W.seq
 apply W.sr
 apply omv; rfl; rfl
 apply obn; rfl; rfl; rfl; apply Bin.neq
 apply OL.nx
 revert hbk0
 revert bk
 intro b7 hb7 hb70
 by_cases ht : t = 0
 ·refine W.cond rfl (fun h => by simp at h; exact absurd ht h) (fun _ => ?_)
  apply W.sk
  apply W.regq; apply Split.s rfl; apply Split.s rfl; apply Split.s rfl; apply Split.s rfl; apply Split.s rfl; apply Split.s rfl; apply Split.s rfl; exact Split.z rfl; kernel_rfl; decide +kernel; exact fun w hw => hw.drew
  apply qmv; rfl; rfl
  apply qop; rfl; apply Pev.nil_ptr; rfl; exact yes
  apply qfa; rfl; rfl; rfl
  apply qld; rfl; rfl; apply List.Mem.tail; apply List.Mem.tail; apply List.Mem.tail; apply List.Mem.tail; apply List.Mem.tail; exact .tail _ (.tail _ (.head _)); rfl; rfl
  apply qfa; rfl; rfl; rfl
  apply qld; rfl; rfl; apply List.Mem.tail; apply List.Mem.tail; apply List.Mem.tail; exact .tail _ (.tail _ (.head _)); rfl; rfl
  apply qop; rfl; apply Pev.load_blkA; rfl; exact yes; exact .head _; rfl; exact Take.au
  with_reducible apply QL.tail
  apply OL.iput; rfl; rfl; rfl; rfl; exact Hole.au
  apply OL.nil
  with_reducible apply At.in_normal
  have e := iput_mc mp iu.1.to_ v
  unfold pC at e
  rw [e]
  refine At.end_ (At.fin0 rfl (fun w' hw' => ⟨rfl, .inr (.inr (.inr ⟨e13, e14, v, t, x2, hQ, .inr ⟨ht, ?_⟩⟩))⟩))
  have h1 := hw'.thin (.any (fun k hk => by rw [show k = b7 from hk]; exact hb7) (.keep (.keep (.keep (.keep (.any (fun k hk => by rw [show k = b4 from hk]; exact hb4) (.any (fun k hk => by rw [show k = b3 from hk]; exact hb3) Thin.same)))))))
  exact h1.perm (List.Perm.append_right H (List.perm_append_comm (l₁ := [_, _, _, _]) (l₂ := [_, _, _])))
 ·refine W.cond rfl (fun _ => ?_) (fun h => by simp at h; exact absurd h ht)
  apply W.reg
  apply omv; rfl; rfl
  apply omv; rfl; rfl
  refine OL.callE (α := Unit) (fun _ => .tuple #[]) (fun _ => True) (fun _ => Cls (blk b7 198 [.int .i64 v.k, .int .i64 v.n, .slice v.q v.l.length v.cap, .pointer (if v.k = 3 then some ⟨v.b, 0, none⟩ else none)] :: blk bm 160 ({ x2.m with ov := true, en := t, va := 0 } : MS).c :: row s0.heap.size x2.Oo x2.m.qo x2.m.no x2.m.co 3 1 (ints x2.out) :: pool (pvR pF) s0.heap.size x2.Op x2.L :: bag s0.heap.size (arI x2.A) :: blk b4 85 [.int .i64 iu.1.to_, .int .i64 iu.1.op, .int .i64 iu.1.n, .slice iu.2.1 iu.1.args.length iu.2.2] :: blk b3 41 [.slice y.2.p.1 y.1.params.length y.2.p.2, .slice (some a3) y.1.ins.length y.2.i.2, .int .i64 y.1.term.kind, .int .i64 y.1.term.arg, .int .i64 y.1.term.n, .slice y.2.t.c.1 y.1.term.cases.length y.2.t.c.2, .slice y.2.t.t.1 y.1.term.to_.length y.2.t.t.2] :: blk bf 195 [.int .i64 (fn : Int), .int .i64 (bk : Int), .int .i64 ((at_ : Int) + 1), .int .i64 to_, .map (some bp)] :: mapI bp (mc mp) :: row s0.heap.size Os (some ⟨gs, 0, none⟩) (ps.length + 1) cs 192 1 (ptrs (ps ++ [bf])) :: H) S) rfl rfl (by exact Args.au) (fun w2 hw2 => (stop_calls bm x2.m t 0 _ S w2 (hw2.perm (List.Perm.swap _ _ _))).mono fun e w3 h => ⟨(), h.1, trivial, h.2.perm (List.Perm.swap _ _ _)⟩) ?_
  intro _ _
  apply OL.nx
  apply W.regq; apply Split.s rfl; apply Split.s rfl; apply Split.s rfl; apply Split.s rfl; apply Split.s rfl; apply Split.s rfl; apply Split.s rfl; exact Split.z rfl; kernel_rfl; decide +kernel; exact fun w hw => hw.drew
  apply qmv; rfl; rfl
  apply qop; rfl; apply Pev.nil_ptr; rfl; exact yes
  apply qfa; rfl; rfl; rfl
  apply qld; rfl; rfl; apply List.Mem.tail; apply List.Mem.tail; apply List.Mem.tail; apply List.Mem.tail; apply List.Mem.tail; exact .tail _ (.tail _ (.head _)); rfl; rfl
  apply qfa; rfl; rfl; rfl
  apply qld; rfl; rfl; apply List.Mem.tail; apply List.Mem.tail; apply List.Mem.tail; exact .tail _ (.tail _ (.head _)); rfl; rfl
  apply qop; rfl; apply Pev.load_blkA; rfl; exact yes; exact .head _; rfl; exact Take.au
  with_reducible apply QL.tail
  apply OL.iput; rfl; rfl; rfl; rfl; exact Hole.au
  apply OL.nil
  with_reducible apply At.in_normal
  have e := iput_mc mp iu.1.to_ v
  unfold pC at e
  rw [e]
  refine At.end_ (At.fin0 rfl (fun w' hw' => ⟨rfl, .inr (.inr (.inr ⟨e13, e14, v, t, x2, hQ, .inl ⟨ht, ?_⟩⟩))⟩))
  have h1 := hw'.thin (.any (fun k hk => by rw [show k = b7 from hk]; exact hb7) (.keep (.keep (.keep (.keep (.any (fun k hk => by rw [show k = b4 from hk]; exact hb4) (.any (fun k hk => by rw [show k = b3 from hk]; exact hb3) Thin.same)))))))
  exact h1.perm (List.Perm.append_right H (List.perm_append_comm (l₁ := [_, _, _, _]) (l₂ := [_, _, _])))
end Go.Proofs.Ytehelljmaiophaa.ss

/- Plain: what holds of the runs of a valid unit. No program in sight. No condition. -/
namespace Go.Ss
theorem ins_form {bs : List Bk} (hs : shapeE bs = 0) {k : Nat} {b : Bk} (hb : bs[k]? = some b) {j : Nat} {i : In} (hi : b.ins[j]? = some i) : formE i = 0 := by
 obtain ⟨_, h2, _⟩ := block_zero (shape_block hs hb)
 have h3 := firstR_zero.1 h2 j (List.getElem?_eq_some_iff.1 hi).1
 unfold insE at h3
 rw [List.getD_eq_getElem?_getD, hi] at h3
 simp only [Option.getD_some] at h3
 by_cases h4 : defE i.to_ (defsF (bs.take k) ++ b.params ++ (b.ins.take j).map In.to_) ≠ 0
 ·rw [if_pos h4] at h3
  exact absurd h3 h4
 ·rwa [if_neg h4] at h3
theorem term_ok {bs : List Bk} (hs : shapeE bs = 0) {k : Nat} {b : Bk} (hb : bs[k]? = some b) : termE bs b.term = 0 := (block_zero (shape_block hs hb)).2.2
theorem func_big {f : Fn} (h : funcE f = 0) : insAll f.blocks ≤ 1024 ∧ (f.blocks.getD 0 noB).params.length ≤ 6 := by
 unfold funcE at h
 split at h
 ·cases h
 ·split at h
  ·cases h
  ·omega
theorem ins_le : ∀ {bs : List Bk} {b : Bk}, b ∈ bs → b.ins.length ≤ insAll bs
 | c :: r, b, h => by
  unfold insAll
  rw [List.map_cons, List.sum_cons]
  rcases List.mem_cons.1 h with rfl | h
  ·omega
  ·have := ins_le h
   unfold insAll at this
   omega
structure UOk (fs : List Fn) : Prop where
 fe : ∀ f ∈ fs, funcE f = 0
 ca : ∀ f ∈ fs, ∀ b ∈ f.blocks, ∀ i ∈ b.ins, (i.op = 13 ∨ i.op = 9) → i.n < (fs.length : Int) ∧ (i.op = 13 → (parB fs i.n.toNat 0).length = i.args.length) ∧ (i.op = 9 → (parB fs i.n.toNat 0).length ≠ 0)
structure GOk (fs : List Fn) (na : Nat) (g : Frm) : Prop where
 f : g.fn < fs.length
 b : g.blk < (fnB fs g.fn).length
 a : g.at_ ≤ ((fnB fs g.fn).getD g.blk noB).ins.length
 v : ∀ k, WfV fs.length na (g.vals k)
structure MOk (fs : List Fn) (M : Mch) : Prop where
 st : ∀ g ∈ M.st, GOk fs M.A.length g
 ar : ∀ l ∈ M.A, ∀ v ∈ l, WfV fs.length M.A.length v
 al : ∀ l ∈ M.A, l.length ≤ 1024
section
variable {fs : List Fn}
theorem fnB_at {k : Nat} (h : k < fs.length) : ∃ f, fs[k]? = some f ∧ fnB fs k = f.blocks ∧ f ∈ fs := by
 refine ⟨fs[k], List.getElem?_eq_getElem h, ?_, List.getElem_mem h⟩
 unfold fnB
 rw [List.getD_eq_getElem?_getD, List.getElem?_eq_getElem h]
 rfl
theorem UOk.shape (hU : UOk fs) {k : Nat} (h : k < fs.length) : shapeE (fnB fs k) = 0 ∧ 0 < (fnB fs k).length := by
 obtain ⟨f, _, h2, h3⟩ := fnB_at h
 obtain ⟨h4, _, h5⟩ := func_zero (hU.fe f h3)
 rw [h2]
 exact ⟨h5, h4⟩
theorem getD_bk {bs : List Bk} {k : Nat} (h : k < bs.length) : bs[k]? = some (bs.getD k noB) := by
 rw [List.getD_eq_getElem?_getD, List.getElem?_eq_getElem h]; rfl
theorem UOk.ins (hU : UOk fs) {f k : Nat} (h : f < fs.length) (hk : k < (fnB fs f).length) {j : Nat} {i : In} (hi : ((fnB fs f).getD k noB).ins[j]? = some i) : InsOk fs i := by
 obtain ⟨g, _, h2, h3⟩ := fnB_at h
 have hb : (fnB fs f).getD k noB ∈ g.blocks := by rw [← h2]; exact List.mem_of_getElem? (getD_bk hk)
 have hii := List.mem_of_getElem? hi
 exact ⟨ins_form (hU.shape h).1 (getD_bk hk) hi, fun e => ⟨(hU.ca g h3 _ hb i hii (.inl e)).1, (hU.ca g h3 _ hb i hii (.inl e)).2.1 e⟩, fun e => ⟨(hU.ca g h3 _ hb i hii (.inr e)).1, (hU.ca g h3 _ hb i hii (.inr e)).2.2 e⟩⟩
theorem setVs_wf {nf na : Nat} : ∀ {ps : List Int} {vs : List SV} {f : Int → SV}, (∀ k, WfV nf na (f k)) → (∀ v ∈ vs, WfV nf na v) → ∀ k, WfV nf na (setVs f ps vs k)
 | [], _, f, hf, _, k => by cases ‹List SV› <;> exact hf k
 | p :: ps, [], f, hf, _, k => hf k
 | p :: ps, v :: vs, f, hf, hv, k => by
  rw [setVs]
  refine setVs_wf (fun j => ?_) (fun x hx => hv x (.tail _ hx)) k
  unfold setV
  split
  ·exact hv v (.head _)
  ·exact hf j
theorem GOk.mono {na na' : Nat} {g : Frm} (h : GOk fs na g) (hn : na ≤ na') : GOk fs na' g := ⟨h.f, h.b, h.a, fun k => (h.v k).mono hn⟩
theorem GOk.args {na : Nat} {g : Frm} (h : GOk fs na g) (l : List Int) : ∀ v ∈ l.map g.vals, WfV fs.length na v := fun v hv => by
 obtain ⟨k, _, rfl⟩ := List.mem_map.1 hv
 exact h.v k
theorem new_ok (hU : UOk fs) {na : Nat} {fn : Int} (h0 : 0 ≤ fn) (h : fn < (fs.length : Int)) {vs : List SV} (hv : ∀ v ∈ vs, WfV fs.length na v) (to_ : Int) : GOk fs na (newF fs fn vs to_) := by
 have hl : fn.toNat < fs.length := by omega
 exact ⟨hl, (hU.shape hl).2, Nat.zero_le _, setVs_wf (fun _ => WfV.zV) hv⟩
theorem UOk.term (hU : UOk fs) {f k : Nat} (h : f < fs.length) (hk : k < (fnB fs f).length) : shapeT ((fnB fs f).getD k noB).term = true ∧ ((fnB fs f).getD k noB).term.cases.length ≤ 256 ∧ (((fnB fs f).getD k noB).term.kind = 4 → 1 ≤ ((fnB fs f).getD k noB).term.n ∧ ((fnB fs f).getD k noB).term.n ≤ 6) ∧
  ∀ e ∈ ((fnB fs f).getD k noB).term.to_, ∃ k2 : Nat, e.block = (k2 : Int) ∧ k2 < (fnB fs f).length ∧ (parB fs f k2).length = e.args.length := by
 obtain ⟨h1, h2, h3, _, h5⟩ := term_zero (term_ok (hU.shape h).1 (getD_bk hk))
 refine ⟨h1, h2, h3, fun e he => ?_⟩
 obtain ⟨h6, h7, h8⟩ := edge_zero (h5 e he)
 refine ⟨e.block.toNat, by omega, by omega, ?_⟩
 unfold parB
 exact h8.symm
theorem idxI_le (n : Int) : ∀ (l : List Int) (i : Nat), idxI n l i ≤ i + l.length
 | [], i => by simp [idxI]
 | c :: r, i => by
  rw [idxI]
  split
  ·simp
  ·have := idxI_le n r (i + 1)
   simp only [List.length_cons]; omega
theorem choose_lt {t : Tm} (h : shapeT t = true) (hk : t.kind = 2 ∨ t.kind = 3) (n : Int) : chooseE t n < t.to_.length := by
 unfold shapeT at h
 unfold chooseE
 rcases hk with hk | hk
 ·rw [if_neg (by omega), if_neg (by omega), if_pos hk] at h
  simp only [Bool.and_eq_true, decide_eq_true_eq] at h
  rw [if_pos hk]
  split <;> omega
 ·rw [if_neg (by omega), if_neg (by omega), if_neg (by omega), if_pos hk] at h
  simp only [Bool.and_eq_true, decide_eq_true_eq] at h
  rw [if_neg (by omega)]
  have := idxI_le n t.cases 0
  omega
theorem jump_one {t : Tm} (h : shapeT t = true) (hk : t.kind = 1) : 0 < t.to_.length := by
 unfold shapeT at h
 rw [if_neg (by omega), if_pos hk] at h
 simp only [Bool.and_eq_true, decide_eq_true_eq] at h
 omega
theorem fol_ok (hU : UOk fs) {na : Nat} {g : Frm} (hg : GOk fs na g) {e : Ed} (he : e ∈ ((fnB fs g.fn).getD g.blk noB).term.to_) : GOk fs na (folF fs g e) := by
 obtain ⟨k2, h1, h2, _⟩ := (hU.term hg.f hg.b).2.2.2 e he
 refine ⟨hg.f, ?_, Nat.zero_le _, setVs_wf hg.v (hg.args _)⟩
 show e.block.toNat < (fnB fs g.fn).length
 omega
theorem insP_al {op n : Int} {l : List SV} {A A' : List (List SV)} {out out' : List Int} {v : SV} {c : Nat} (hA : ∀ l ∈ A, l.length ≤ 1024) (h : insP op n l A out = .ok v A' out' c) : (∀ l ∈ A', l.length ≤ 1024) ∧ (out.length ≤ 1000 → out'.length ≤ 1000) := by
 have same : ∀ {x : SV} {o : List Int} {d : Nat}, (out.length ≤ 1000 → o.length ≤ 1000) → Rs.ok x A o d = .ok v A' out' c → (∀ l ∈ A', l.length ≤ 1024) ∧ (out.length ≤ 1000 → out'.length ≤ 1000) := by
  intro x o d ho hr
  obtain ⟨rfl, rfl, rfl, rfl⟩ := Rs.ok.inj hr
  exact ⟨hA, ho⟩
 unfold insP insQ at h
 by_cases e : op = 0
 ·rw [if_pos e] at h
  ((repeat' split at h) <;> first | (cases h; done) | exact same id h)
 rw [if_neg e] at h
 clear e
 by_cases e : 1 ≤ op ∧ op ≤ 7
 ·rw [if_pos e] at h
  ((repeat' split at h) <;> first | (cases h; done) | exact same id h)
 rw [if_neg e] at h
 clear e
 by_cases e : op = 8
 ·rw [if_pos e] at h
  ((repeat' split at h) <;> first | (cases h; done) | exact same id h)
 rw [if_neg e] at h
 clear e
 by_cases e : op = 9
 ·rw [if_pos e] at h
  ((repeat' split at h) <;> first | (cases h; done) | exact same id h)
 rw [if_neg e] at h
 clear e
 by_cases e : op = 10
 ·rw [if_pos e] at h
  ((repeat' split at h) <;> first | (cases h; done) | exact same id h)
 rw [if_neg e] at h
 clear e
 by_cases e : op = 11
 ·rw [if_pos e] at h
  ((repeat' split at h) <;> first | (cases h; done) | exact same id h)
 rw [if_neg e] at h
 clear e
 by_cases e : op = 12
 ·rw [if_pos e] at h
  ((repeat' split at h) <;> first | (cases h; done) | exact same id h)
 rw [if_neg e] at h
 clear e
 by_cases e : op = 15
 ·rw [if_pos e] at h
  split at h
  ·cases h
  ·split at h
   ·cases h
   ·rename_i h1
    exact same (fun ho => by rw [List.length_append, List.length_singleton]; omega) h
 rw [if_neg e] at h
 clear e
 by_cases e : op = 16
 ·rw [if_pos e] at h
  split at h
  ·cases h
  ·split at h
   ·cases h
   ·rename_i h1
    obtain ⟨rfl, rfl, rfl, rfl⟩ := Rs.ok.inj h
    refine ⟨fun x hx => ?_, id⟩
    rcases List.mem_append.1 hx with hx | hx
    ·exact hA x hx
    ·rw [List.mem_singleton.1 hx, List.length_replicate]
     omega
 rw [if_neg e] at h
 clear e
 by_cases e : op = 17
 ·rw [if_pos e] at h
  ((repeat' split at h) <;> first | (cases h; done) | exact same id h)
 rw [if_neg e] at h
 clear e
 by_cases e : op = 18
 ·rw [if_pos e] at h
  ((repeat' split at h) <;> first | (cases h; done) | exact same id h)
 rw [if_neg e] at h
 clear e
 by_cases e : op = 19
 ·rw [if_pos e] at h
  ((repeat' split at h) <;> first | (cases h; done) | exact same id h)
 rw [if_neg e] at h
 clear e
 by_cases e : op = 20
 ·rw [if_pos e] at h
  split at h
  ·cases h
  ·split at h
   ·cases h
   ·obtain ⟨rfl, rfl, rfl, rfl⟩ := Rs.ok.inj h
    refine ⟨fun x hx => ?_, id⟩
    rcases List.mem_or_eq_of_mem_set hx with hx | rfl
    ·exact hA x hx
    ·rw [List.length_set]
     unfold rowA
     rw [List.getD_eq_getElem?_getD]
     cases hi2 : A[(l.getD 0 zV).n.toNat]? with
     | none => simp
     | some y => exact hA y (List.mem_of_getElem? hi2)
 rw [if_neg e] at h
 clear e
 by_cases e : op = 21
 ·rw [if_pos e] at h
  ((repeat' split at h) <;> first | (cases h; done) | exact same id h)
 rw [if_neg e] at h
 clear e
 by_cases e : op = 22
 ·rw [if_pos e] at h
  ((repeat' split at h) <;> first | (cases h; done) | exact same id h)
 rw [if_neg e] at h
 clear e
 by_cases e : op = 23
 ·rw [if_pos e] at h
  ((repeat' split at h) <;> first | (cases h; done) | exact same id h)
 rw [if_neg e] at h
 clear e
 by_cases e : op = 24
 ·rw [if_pos e] at h
  ((repeat' split at h) <;> first | (cases h; done) | exact same id h)
 rw [if_neg e] at h
 clear e
 cases h
theorem stepP_ok (hU : UOk fs) {M M' : Mch} (hM : MOk fs M) (h : stepP fs M = .next M') : MOk fs M' := by
 obtain ⟨st, A, out, left⟩ := M
 cases st with
 | nil => cases h
 | cons f K =>
  have hf := hM.st f (.head _)
  have hK : ∀ g ∈ K, GOk fs A.length g := fun g hg => hM.st g (.tail _ hg)
  unfold stepP at h
  simp only at h
  by_cases hl : left = 0
  ·rw [if_pos hl] at h; cases h
  rw [if_neg hl] at h
  cases hi : ((fnB fs f.fn).getD f.blk noB).ins[f.at_]? with
  | some i =>
   rw [hi] at h
   simp only at h
   have hat := (List.getElem?_eq_some_iff.1 hi).1
   have hio := hU.ins hf.f hf.b hi
   have hf' : GOk fs A.length ⟨f.fn, f.blk, f.at_ + 1, f.to_, f.vals⟩ := ⟨hf.f, hf.b, hat, hf.v⟩
   by_cases h13 : i.op = 13
   ·rw [if_pos h13] at h
    obtain rfl := Stp.next.inj h
    refine ⟨fun g hg => ?_, hM.ar, hM.al⟩
    rcases List.mem_cons.1 hg with rfl | hg
    ·have hn : 0 ≤ i.n := by
      have := hio.form
      obtain ⟨_, _, _, _, _, _, h6⟩ := form_zero this
      unfold numB at h6
      rw [if_neg (by omega), if_pos (by omega)] at h6
      simp only [Bool.and_eq_true, decide_eq_true_eq] at h6
      exact h6.1
     exact new_ok hU hn (hio.call h13).1 (hf.args _) _
    ·rcases List.mem_cons.1 hg with rfl | hg
     ·exact hf'
     ·exact hK g hg
   rw [if_neg h13] at h
   by_cases h14 : i.op = 14
   ·rw [if_pos h14] at h
    by_cases hc : (((i.args.map f.vals).getD 0 zV).k = 2 ∧ (parB fs ((i.args.map f.vals).getD 0 zV).n.toNat 0).length = i.args.length)
    ·rw [if_pos hc] at h
     obtain rfl := Stp.next.inj h
     refine ⟨fun g hg => ?_, hM.ar, hM.al⟩
     rcases List.mem_cons.1 hg with rfl | hg
     ·have h2 := (WfV.getD (hf.args i.args) 0).clos hc.1
      exact new_ok hU h2.1 h2.2 (hf.args _) _
     ·rcases List.mem_cons.1 hg with rfl | hg
      ·exact hf'
      ·exact hK g hg
    ·rw [if_neg hc] at h; cases h
   rw [if_neg h14] at h
   cases hr : insP i.op i.n (i.args.map f.vals) A out with
   | trap t => rw [hr] at h; cases h
   | ok v A' out' c =>
    rw [hr] at h
    simp only at h
    by_cases hc : left - 1 < c
    ·rw [if_pos hc] at h; cases h
    rw [if_neg hc] at h
    obtain rfl := Stp.next.inj h
    obtain ⟨g1, g2, g3⟩ := insP_wf hio (hf.args i.args) (by simp) hM.ar hM.al hr
    refine ⟨fun g hg => ?_, g3, (insP_al hM.al hr).1⟩
    rcases List.mem_cons.1 hg with rfl | hg
    ·refine ⟨hf.f, hf.b, hat, fun k => ?_⟩
     show WfV _ _ (setV f.vals i.to_ v k)
     unfold setV
     split
     ·exact g2
     ·exact (hf.v k).mono g1
    ·exact (hK g hg).mono g1
  | none =>
   rw [hi] at h
   simp only at h
   obtain ⟨t, ht⟩ : ∃ t, ((fnB fs f.fn).getD f.blk noB).term = t := ⟨_, rfl⟩
   have hT := hU.term hf.f hf.b
   have hfol := fun e => fol_ok hU hf (e := e)
   rw [ht] at h hT
   simp only [ht] at hfol
   have hfl : ∀ e ∈ t.to_, ∀ M', Stp.next ⟨folF fs f e :: K, A, out, left - 1⟩ = .next M' → MOk fs M' := fun e he M' h => by
    obtain rfl := Stp.next.inj h
    refine ⟨fun g hg => ?_, hM.ar, hM.al⟩
    rcases List.mem_cons.1 hg with rfl | hg
    ·exact hfol e he
    ·exact hK g hg
   by_cases h4 : t.kind = 4
   ·rw [if_pos h4] at h; cases h
   rw [if_neg h4] at h
   by_cases h1 : t.kind = 1
   ·rw [if_pos h1] at h
    refine hfl _ ?_ _ h
    rw [List.getD_eq_getElem?_getD, List.getElem?_eq_getElem (jump_one hT.1 h1)]
    exact List.getElem_mem _
   rw [if_neg h1] at h
   by_cases h0 : t.kind = 0
   ·rw [if_pos h0] at h
    cases K with
    | nil => cases h
    | cons g K =>
     obtain rfl := Stp.next.inj h
     have hg := hK g (.head _)
     refine ⟨fun y hy => ?_, hM.ar, hM.al⟩
     rcases List.mem_cons.1 hy with rfl | hy
     ·refine ⟨hg.f, hg.b, hg.a, fun k => ?_⟩
      show WfV _ _ (setV g.vals f.to_ _ k)
      unfold setV
      split
      ·exact hf.v _
      ·exact hg.v k
     ·exact hK y (.tail _ hy)
   rw [if_neg h0] at h
   by_cases hk : (f.vals t.arg).k ≠ 0
   ·rw [if_pos hk] at h; cases h
   rw [if_neg hk] at h
   have hkk := shape_kind hT.1
   have hlt := choose_lt hT.1 (by omega) (f.vals t.arg).n
   refine hfl _ ?_ _ h
   rw [List.getD_eq_getElem?_getD, List.getElem?_eq_getElem hlt]
   exact List.getElem_mem _
end
end Go.Ss

/- The walk of ssa's machine: a step, as the plain machine does it. Conditions: none. -/
namespace Go.Eng
open Go.RowKit
section
variable {H L : List Item} {S : List World} {w : World} {B : Nat} {a b c d e p q i j : Item}
theorem Cls.fr_push (h : Cls (a :: b :: i :: j :: c :: d :: e :: p :: q :: bag B L :: H) S w) (hi : ∀ k, i.own k → B ≤ k) (hj : ∀ k, j.own k → B ≤ k) : Cls (a :: b :: c :: d :: e :: p :: q :: bag B (i :: j :: L) :: H) S w := by
 have h1 : Cls (j :: bag B L :: a :: b :: i :: c :: d :: e :: p :: q :: H) S w := by
  have g1 := h.perm (List.perm_middle (l₁ := [a, b, i, j, c, d, e, p, q]) (l₂ := H))
  have g2 : Cls (j :: bag B L :: a :: b :: i :: c :: d :: e :: p :: q :: H) S w := g1.perm (List.perm_middle (l₁ := [_, a, b, i]) (l₂ := c :: d :: e :: p :: q :: H))
  exact g2
 have h2 := h1.bag_in hj
 have h3 : Cls (i :: bag B (j :: L) :: a :: b :: c :: d :: e :: p :: q :: H) S w := h2.perm (List.perm_middle (l₁ := [_, a, b]) (l₂ := c :: d :: e :: p :: q :: H))
 exact (h3.bag_in hi).perm (List.perm_middle (l₁ := [a, b, c, d, e, p, q]) (l₂ := H)).symm
theorem Cls.fr_pop (h : Cls (a :: b :: c :: d :: e :: p :: q :: bag B (i :: j :: L) :: H) S w) : Cls (a :: b :: i :: j :: c :: d :: e :: p :: q :: bag B L :: H) S w := by
 have h1 := (h.perm (List.perm_middle (l₁ := [a, b, c, d, e, p, q]) (l₂ := H))).bag_out
 have h2 : Cls (bag B (j :: L) :: i :: a :: b :: c :: d :: e :: p :: q :: H) S w := h1.perm (List.Perm.swap _ _ _)
 have h3 : Cls (j :: bag B L :: i :: a :: b :: c :: d :: e :: p :: q :: H) S w := h2.bag_out
 have h4 : Cls (i :: j :: a :: b :: c :: d :: e :: p :: q :: bag B L :: H) S w := by
  have g1 : Cls (bag B L :: j :: i :: a :: b :: c :: d :: e :: p :: q :: H) S w := h3.perm (List.Perm.swap _ _ _)
  have g2 : Cls (j :: i :: a :: b :: c :: d :: e :: p :: q :: bag B L :: H) S w := g1.perm (List.perm_middle (l₁ := [j, i, a, b, c, d, e, p, q]) (l₂ := H)).symm
  exact g2.perm (List.Perm.swap _ _ _)
 exact h4.perm (List.Perm.append_right _ (List.perm_append_comm (l₁ := [i, j]) (l₂ := [a, b])))
end
end Go.Eng
namespace Go.Ss
open Go.Eng Go.RowKit
structure FR where
 bf : Nat
 bp : Nat
 fn : Nat
 blk : Nat
 at_ : Nat
 to_ : Int
 mp : VM
structure FOk (bs : List Nat) (L : List (PV × Unit)) (f : FR) (g : Frm) : Prop where
 fn : f.fn = g.fn
 blk : f.blk = g.blk
 at_ : f.at_ = g.at_
 to_ : f.to_ = g.to_
 er : ∀ k, Er (bxN bs) (pget f.mp k) (g.vals k)
 inp : ∀ k, InP L (pget f.mp k)
theorem bxN.ext {bs : List Nat} (ex : List Nat) : ∀ k n b m, bxN bs k n b m → bxN (bs ++ ex) k n b m := by
 intro k n b m h
 unfold bxN at h ⊢
 split
 ·rename_i e
  rw [if_pos e] at h
  refine ⟨h.1, ?_⟩
  rw [List.getElem?_append_left (List.getElem?_eq_some_iff.1 h.2).1]
  exact h.2
 ·rename_i e
  rwa [if_neg e] at h
theorem FOk.ext {bs : List Nat} {L M : List (PV × Unit)} {f : FR} {g : Frm} (h : FOk bs L f g) (ex : List Nat) (hL : ∀ r, r ∈ L → r ∈ M) : FOk (bs ++ ex) M f g := ⟨h.fn, h.blk, h.at_, h.to_, fun k => (h.er k).mono (bxN.ext ex), fun k => (h.inp k).more hL⟩
theorem pput_er {N : Int → Int → Nat → Int → Prop} {m : VM} {f : Int → SV} {p : PV} {v : SV} {j : Int} (h : ∀ k, Er N (pget m k) (f k)) (hv : Er N p v) : ∀ k, Er N (pget (pput m j p) k) (setV f j v k) := fun k => by
 rw [pget_pput]
 unfold setV
 by_cases e : j = k
 ·rw [if_pos e, if_pos e.symm]; exact hv
 ·rw [if_neg e, if_neg (fun x => e x.symm)]; exact h k
theorem pputs_er {N : Int → Int → Nat → Int → Prop} : ∀ {ps : List Int} {m : VM} {f : Int → SV} {l : List PV} {vs : List SV}, (∀ k, Er N (pget m k) (f k)) → Ers N l vs → ∀ k, Er N (pget (pputs m ps l) k) (setVs f ps vs k)
 | [], m, f, l, vs, h, _, k => by
  have e1 : pputs m [] l = m := by cases l <;> rfl
  have e2 : setVs f [] vs = f := by cases vs <;> rfl
  rw [e1, e2]; exact h k
 | p :: ps, m, f, [], [], h, _, k => h k
 | p :: ps, m, f, x :: l, v :: vs, h, hl, k => by
  simp only [Ers] at hl
  rw [pputs, setVs]
  exact pputs_er (pput_er h hl.1) hl.2 k
 | _ :: _, _, _, [], _ :: _, _, hl, _ => by simp only [Ers] at hl
 | _ :: _, _, _, _ :: _, [], _, hl, _ => by simp only [Ers] at hl
theorem pput_in {L : List (PV × Unit)} {m : VM} {p : PV} {j : Int} (h : ∀ k, InP L (pget m k)) (hp : InP L p) : ∀ k, InP L (pget (pput m j p) k) := fun k => by
 rw [pget_pput]
 split
 ·exact hp
 ·exact h k
theorem pputs_in {L : List (PV × Unit)} : ∀ {ps : List Int} {m : VM} {l : List PV}, (∀ k, InP L (pget m k)) → (∀ p ∈ l, InP L p) → ∀ k, InP L (pget (pputs m ps l) k)
 | [], m, l, h, _, k => by
  have e1 : pputs m [] l = m := by cases l <;> rfl
  rw [e1]; exact h k
 | p :: ps, m, [], h, _, k => h k
 | p :: ps, m, x :: l, h, hl, k => by
  rw [pputs]
  exact pputs_in (pput_in h (hl x (.head _))) (fun y hy => hl y (.tail _ hy)) k
structure StOk (qF : Option Addr) (nF : Nat) (M : Mch) (x : XS) (top : FR) (rest : List FR) (left : Int) : Prop where
 qf : x.m.qF = qF
 nf : x.m.nF = nF
 st : ∃ g K, M.st = g :: K ∧ FOk x.bs x.L top g ∧ rest.length = K.length ∧ ∀ (i : Nat) f, rest[i]? = some f → ∃ k, K[i]? = some k ∧ FOk x.bs x.L f k
 ok : XOk x M.A
 out : x.out = M.out
 lf : x.m.left = left
 ns : x.m.ns = rest.length + 1
 big : (x.m.ns : Int) + left ≤ 100001
 ov : x.m.ov = false
def FinR (f : Fin) (m : MS) (out : List Int) : Prop := match f with
 | .short => m.sh = true ∧ m.ov = true
 | .done en va o left => m.sh = false ∧ m.ov = true ∧ m.en = en ∧ m.va = va ∧ out = o ∧ m.left = left ∧ m.no = out.length
end Go.Ss
namespace Go.Proofs.Ytehelljmaiophaa.ss
set_option maxRecDepth 100000
open Go.Eng Go.RowKit Go.Ss
def frIt (f : FR) : List Eng.Item := [blk f.bf 195 (frC f.fn f.blk f.at_ f.to_ f.bp), mapI f.bp (mc f.mp)]
def frI (l : List FR) : List Eng.Item := l.flatMap frIt
def ptL (top : FR) (rest : List FR) : List Nat := (rest.map FR.bf).reverse ++ [top.bf]
def sI (B bm : Nat) (x : XS) (top : FR) (rest : List FR) (Os : Nat → Prop) (H : List Eng.Item) : List Eng.Item :=
 blk top.bf 195 (frC top.fn top.blk top.at_ top.to_ top.bp) :: mapI top.bp (mc top.mp) :: row B Os x.m.qs x.m.ns x.m.cs 192 1 (ptrs (ptL top rest)) :: xI B bm x (bag B (frI rest) :: H)
def StepPost (qF : Option Addr) (nF bm : Nat) (s0 : World) (S : List World) (H : List Eng.Item) (r : Stp) (w' : World) : Prop := match r with
 | .next M' => ∃ x top rest Os, StOk qF nF M' x top rest M'.left ∧ (s0.heap.size ≤ top.bf ∧ s0.heap.size ≤ top.bp) ∧ Cls (sI s0.heap.size bm x top rest Os H) S w'
 | .fin f => ∃ m out Oo J, FinR f m out ∧ (∀ i ∈ J, ∀ k, i.own k → s0.heap.size ≤ k) ∧ Cls (blk bm 160 m.c :: row s0.heap.size Oo m.qo m.no m.co 3 1 (ints out) :: (J ++ H)) S w'
end Go.Proofs.Ytehelljmaiophaa.ss

/- The walk of ssa's machine: each step is the plain machine's. Conditions: none. -/
namespace Go.Ss
open Go.Eng Go.RowKit
theorem fnB_map {fns : List (Fn × FnY)} {k : Nat} {p : Fn × FnY} (h : fns[k]? = some p) : fnB (fns.map Prod.fst) k = p.1.blocks := by
 unfold fnB
 rw [List.getD_eq_getElem?_getD, List.getElem?_map, h]
 rfl
theorem fns_at {fns : List (Fn × FnY)} {k : Nat} (h : k < (fns.map Prod.fst).length) : ∃ p, fns[k]? = some p := by
 rw [List.length_map] at h
 exact ⟨_, List.getElem?_eq_getElem h⟩
theorem insP_trap {fs : List Fn} {i : In} (hi : InsOk fs i) (h13 : i.op ≠ 13) (h14 : i.op ≠ 14) {as_ : List SV} {A : List (List SV)} {out : List Int} {t : Int} (h : insP i.op i.n as_ A out = .trap t) : t ≠ 0 := by
 have h24 := (form_args hi.form).2.2.2.2.2
 unfold insP insQ at h
 by_cases e0 : i.op = 0
 ·rw [if_pos e0] at h; cases h
 rw [if_neg e0] at h
 by_cases e1 : 1 ≤ i.op ∧ i.op ≤ 7
 ·rw [if_pos e1] at h
  ((repeat' split at h) <;> first | (cases h; done) | (obtain rfl := Rs.trap.inj h; decide))
 rw [if_neg e1] at h
 by_cases e8 : i.op = 8
 ·rw [if_pos e8] at h
  ((repeat' split at h) <;> first | (cases h; done) | (obtain rfl := Rs.trap.inj h; decide))
 rw [if_neg e8] at h
 by_cases e9 : i.op = 9
 ·rw [if_pos e9] at h
  ((repeat' split at h) <;> first | (cases h; done) | (obtain rfl := Rs.trap.inj h; decide))
 rw [if_neg e9] at h
 by_cases e10 : i.op = 10
 ·rw [if_pos e10] at h
  ((repeat' split at h) <;> first | (cases h; done) | (obtain rfl := Rs.trap.inj h; decide))
 rw [if_neg e10] at h
 by_cases e11 : i.op = 11
 ·rw [if_pos e11] at h
  ((repeat' split at h) <;> first | (cases h; done) | (obtain rfl := Rs.trap.inj h; decide))
 rw [if_neg e11] at h
 by_cases e12 : i.op = 12
 ·rw [if_pos e12] at h
  ((repeat' split at h) <;> first | (cases h; done) | (obtain rfl := Rs.trap.inj h; decide))
 rw [if_neg e12] at h
 by_cases e15 : i.op = 15
 ·rw [if_pos e15] at h
  ((repeat' split at h) <;> first | (cases h; done) | (obtain rfl := Rs.trap.inj h; decide))
 rw [if_neg e15] at h
 by_cases e16 : i.op = 16
 ·rw [if_pos e16] at h
  ((repeat' split at h) <;> first | (cases h; done) | (obtain rfl := Rs.trap.inj h; decide))
 rw [if_neg e16] at h
 by_cases e17 : i.op = 17
 ·rw [if_pos e17] at h
  ((repeat' split at h) <;> first | (cases h; done) | (obtain rfl := Rs.trap.inj h; decide))
 rw [if_neg e17] at h
 by_cases e18 : i.op = 18
 ·rw [if_pos e18] at h
  ((repeat' split at h) <;> first | (cases h; done) | (obtain rfl := Rs.trap.inj h; decide))
 rw [if_neg e18] at h
 by_cases e19 : i.op = 19
 ·rw [if_pos e19] at h
  ((repeat' split at h) <;> first | (cases h; done) | (obtain rfl := Rs.trap.inj h; decide))
 rw [if_neg e19] at h
 by_cases e20 : i.op = 20
 ·rw [if_pos e20] at h
  ((repeat' split at h) <;> first | (cases h; done) | (obtain rfl := Rs.trap.inj h; decide))
 rw [if_neg e20] at h
 by_cases e21 : i.op = 21
 ·rw [if_pos e21] at h
  ((repeat' split at h) <;> first | (cases h; done) | (obtain rfl := Rs.trap.inj h; decide))
 rw [if_neg e21] at h
 by_cases e22 : i.op = 22
 ·rw [if_pos e22] at h
  ((repeat' split at h) <;> first | (cases h; done) | (obtain rfl := Rs.trap.inj h; decide))
 rw [if_neg e22] at h
 by_cases e23 : i.op = 23
 ·rw [if_pos e23] at h
  ((repeat' split at h) <;> first | (cases h; done) | (obtain rfl := Rs.trap.inj h; decide))
 rw [if_neg e23] at h
 by_cases e24 : i.op = 24
 ·rw [if_pos e24] at h
  ((repeat' split at h) <;> first | (cases h; done) | (obtain rfl := Rs.trap.inj h; decide))
 rw [if_neg e24] at h
 cases h
 omega
end Go.Ss
namespace Go.Proofs.Ytehelljmaiophaa.ss
set_option maxRecDepth 100000
open Go.Eng Go.RowKit Go.Ss
theorem step_some (fns : List (Go.Ss.Fn × FnY)) (qF : Option Addr) (hU : UOk (fns.map Prod.fst)) (M : Mch) (hM : MOk (fns.map Prod.fst) M) (hl : M.left ≠ 0) (x : XS) (top : FR) (rest : List FR) (Os : Nat → Prop) (h : StOk qF fns.length M x top rest ((M.left - 1 : Nat) : Int)) (hbg : (x.m.ns : Int) + (M.left : Int) ≤ 100001) (bm : Nat) (g : Frm) (K : List Frm) (hst : M.st = g :: K) (i : Go.Ss.In) (hi : ((fnB (fns.map Prod.fst) g.fn).getD g.blk noB).ins[g.at_]? = some i)
  (H : List Eng.Item) (S : List World) (s0 : World) (hs0 : s0 ∈ S) (hu : Arr fnR s0 (low s0) fns qF) (hbf0 : s0.heap.size ≤ top.bf) (hbp0 : s0.heap.size ≤ top.bp) (hbm0 : s0.heap.size ≤ bm) (hno : ∀ k, k < s0.heap.size → NotOwned H k) (w : World) (hc : Cls (sI s0.heap.size bm x top rest Os H) S w) :
  Calls Try.prog 110 [.pointer (some ⟨bm, 0, none⟩)].toArray w fun e w' => e = .returned (.tuple #[]) ∧ StepPost qF fns.length bm s0 S H (stepP (fns.map Prod.fst) M) w' := by
 obtain ⟨g', K', hst', hfo, hrl, hrk⟩ := h.st
 rw [hst] at hst'
 obtain ⟨rfl, rfl⟩ := List.cons.inj hst'
 obtain ⟨st, A, out, left⟩ := M
 simp only at hst hl h hbg
 subst hst
 have hb1 : ((x.m.ns + 1 : Nat) : Int) + ((left - 1 : Nat) : Int) ≤ 100001 := by omega
 have hcast : ∀ c : Nat, (c : Int) ≤ ((left - 1 : Nat) : Int) → ((left - 1 : Nat) : Int) - (c : Int) = ((left - 1 - c : Nat) : Int) := fun c h => by omega
 have hb2x : ∀ c : Nat, (x.m.ns : Int) + ((left - 1 - c : Nat) : Int) ≤ 100001 := fun c => by omega
 have hgo := hM.st g (.head _)
 obtain ⟨p, hp⟩ := fns_at hgo.f
 have hfb := fnB_map hp
 have hgb := hgo.b
 have hsh := hU.shape hgo.f
 have hfz : funcE p.1 = 0 := hU.fe p.1 (List.mem_map.2 ⟨p, List.mem_of_getElem? hp, rfl⟩)
 have hio := hU.ins hgo.f hgo.b hi
 rw [hfb] at hi hgb
 obtain ⟨b, hb⟩ : ∃ b, p.1.blocks.getD g.blk noB = b := ⟨_, rfl⟩
 rw [hb] at hi
 have hbb : p.1.blocks[g.blk]? = some b := by rw [← hb]; exact getD_bk hgb
 have hil : b.ins.length ≤ 1000000 := by
  have h1 := ins_le (List.mem_of_getElem? hbb)
  have h2 := (func_big hfz).1
  omega
 -- the callee
 have hE : Ers (bxN x.bs) (i.args.map (pget top.mp)) (i.args.map g.vals) := Ers.map _ _ fun k _ => hfo.er k
 have hin : ∀ q ∈ i.args.map (pget top.mp), InP x.L q := fun q hq => by
  obtain ⟨k, _, rfl⟩ := List.mem_map.1 hq
  exact hfo.inp k
 have hwf := hgo.args i.args
 obtain ⟨a0, ha0⟩ : ∃ a0, pget top.mp (i.args.getD 0 0) = a0 := ⟨_, rfl⟩
 obtain ⟨v0, hv0⟩ : ∃ v0, (i.args.map g.vals).getD 0 zV = v0 := ⟨_, rfl⟩
 have hav : i.args.length ≠ 0 → Er (bxN x.bs) a0 v0 := fun hl => by
  rw [← ha0, ← hv0, List.getD_eq_getElem?_getD, List.getD_eq_getElem?_getD, List.getElem?_map, List.getElem?_eq_getElem (by omega : 0 < i.args.length)]
  exact hfo.er _
 have h14l : i.op = 14 → i.args.length ≠ 0 := fun e => by
  obtain ⟨_, _, _, h3, _⟩ := form_zero hio.form
  exact h3 e
 obtain ⟨fn2, hfn2⟩ : ∃ fn2, (if i.op = 13 then i.n.toNat else v0.n.toNat) = fn2 := ⟨_, rfl⟩
 obtain ⟨b2, hb2⟩ : ∃ b2, (fnB (fns.map Prod.fst) fn2).getD 0 noB = b2 := ⟨_, rfl⟩
 have hpar : parB (fns.map Prod.fst) fn2 0 = b2.params := by unfold parB; rw [hb2]
 have hn13 : i.op = 13 → i.n = (fn2 : Int) ∧ fn2 < (fns.map Prod.fst).length := fun e => by
  rw [if_pos e] at hfn2
  have h1 := (hio.call e).1
  obtain ⟨_, _, _, _, _, _, h6⟩ := form_zero hio.form
  unfold numB at h6
  rw [if_neg (by omega), if_pos (by omega)] at h6
  simp only [Bool.and_eq_true, decide_eq_true_eq] at h6
  omega
 have hn14 : i.op = 14 → a0.k = 2 → a0.n = (fn2 : Int) ∧ fn2 < (fns.map Prod.fst).length := fun e hk => by
  rw [if_neg (by omega)] at hfn2
  have h1 := hav (h14l e)
  have h2 : v0.k = 2 := by rw [← h1.k]; exact hk
  have h3 := (show WfV (fns.map Prod.fst).length A.length v0 by rw [← hv0]; exact WfV.getD hwf 0).clos h2
  have h4 := h1.num (by omega)
  omega
 have hex : fn2 < (fns.map Prod.fst).length → ∃ p2 : Go.Ss.Fn × FnY, fns[fn2]? = some p2 ∧ p2.1.blocks[0]? = some b2 := fun hlt => by
  obtain ⟨p2, hp2⟩ := fns_at hlt
  refine ⟨p2, hp2, ?_⟩
  have h1 := (hU.shape hlt).2
  rw [fnB_map hp2] at h1 hb2
  rw [← hb2]
  exact getD_bk h1
 obtain ⟨p2, hp2⟩ : ∃ p2 : Go.Ss.Fn × FnY, (i.op = 13 ∨ (i.op = 14 ∧ a0.k = 2)) → fns[fn2]? = some p2 ∧ p2.1.blocks[0]? = some b2 := by
  by_cases hc : i.op = 13 ∨ (i.op = 14 ∧ a0.k = 2)
  ·have hlt : fn2 < (fns.map Prod.fst).length := by
    rcases hc with e | ⟨e, hk⟩
    ·exact (hn13 e).2
    ·exact (hn14 e hk).2
   obtain ⟨p2, h1⟩ := hex hlt
   exact ⟨p2, fun _ => h1⟩
  ·exact ⟨p, fun h => absurd h hc⟩
 clear hfn2
 have hns := h.ns
 have hbig := h.big
 have hqf := h.qf
 have hnf := h.nf
 subst hqf
 have key := step_ins fns bm top.bf top.fn top.blk top.at_ top.to_ top.bp top.mp x hnf p (by rw [hfo.fn]; exact hp) b (by rw [hfo.blk]; exact hbb) Os ((rest.map FR.bf).reverse) (by rw [hns]; simp) (by omega) (bag s0.heap.size (frI rest) :: H) S s0 hs0 hu hbf0 hbp0 hbm0 (fun k hk => NotOwned.bag hk (hno k hk)) hil i (by rw [hfo.at_]; exact hi) hio.form (i.args.map g.vals) A h.ok hE hin (fns.map Prod.fst).length hwf b2 (decide (a0.k = 2 ∧ b2.params.length = i.args.length)) (by rw [ha0]; exact decide_eq_true_iff) fn2 p2 (by rw [ha0]; exact hp2) (fun e => ⟨(hn13 e).1, by rw [← hpar]; have := (hio.call e).2; rwa [(hn13 e).1, Int.toNat_natCast] at this⟩) (fun e hk => by rw [ha0] at hk ⊢; exact (hn14 e hk).1) w hc
 refine key.mono fun e w' ⟨h1, h2⟩ => ⟨h1, ?_⟩
 clear key
 unfold stepP
 simp only [hl, if_false, hfb, hb, hi, hv0]
 have hsz : ∀ (z : XS), z.m.left = x.m.left → z.m.sh = x.m.sh → z.m.no = x.m.no → z.out = x.out → z.A = x.A → z.L = x.L → XOk z A := fun z h1 h2 h3 h4 h5 h6 => by
  have ho := h.ok
  have hbs : z.bs = x.bs := by unfold XS.bs; rw [h5]
  exact ⟨by rw [h3, h4]; exact ho.no, by rw [h4]; exact ho.ol, by rw [h5]; exact ho.al, by rw [h5, hbs]; exact ho.ar, by rw [h5, h6]; exact ho.ai, by rw [h5]; exact ho.a1, by rw [h2]; exact ho.sh, by rw [h1]; exact ho.l0, by rw [h1]; exact ho.l6⟩
 have hent : ∀ n : Int, n.toNat = fn2 → ∀ (bf2 bp2 c' : Nat) (O' : Nat → Prop) (q' : Option Addr), (s0.heap.size ≤ bf2 ∧ s0.heap.size ≤ bp2) → Cls (blk bf2 195 (frC fn2 0 0 i.to_ bp2) :: mapI bp2 (mc (pputs [] b2.params (i.args.map (pget top.mp)))) :: blk top.bf 195 (frC top.fn top.blk (top.at_ + 1) top.to_ top.bp) :: mapI top.bp (mc top.mp) :: row s0.heap.size O' q' (x.m.ns + 1) c' 192 1 (ptrs ((rest.map FR.bf).reverse ++ [top.bf, bf2])) :: xI s0.heap.size bm { x with m := { x.m with qs := q', ns := x.m.ns + 1, cs := c' } } (bag s0.heap.size (frI rest) :: H)) S w' →
   StepPost x.m.qF fns.length bm s0 S H (.next ⟨newF (fns.map Prod.fst) n (i.args.map g.vals) i.to_ :: ⟨g.fn, g.blk, g.at_ + 1, g.to_, g.vals⟩ :: K, A, out, left - 1⟩) w' := by
  intro n hn bf2 bp2 c' O' q' hb0 hcl
  refine ⟨{ x with m := { x.m with qs := q', ns := x.m.ns + 1, cs := c' } }, ⟨bf2, bp2, fn2, 0, 0, i.to_, pputs [] b2.params (i.args.map (pget top.mp))⟩, ⟨top.bf, top.bp, top.fn, top.blk, top.at_ + 1, top.to_, top.mp⟩ :: rest, O', ⟨rfl, hnf, ⟨_, _, rfl, ⟨hn.symm, rfl, rfl, rfl, ?_, ?_⟩, by simp [hrl], ?_⟩, hsz _ rfl rfl rfl rfl rfl rfl, h.out, h.lf, by simp [hns], ?_, h.ov⟩, hb0, ?_⟩
  ·show ∀ k, Er (bxN x.bs) (pget (pputs [] b2.params (i.args.map (pget top.mp))) k) (setVs (fun _ => zV) (parB (fns.map Prod.fst) n.toNat 0) (i.args.map g.vals) k)
   rw [hn, hpar]
   exact pputs_er (fun _ => bxN.z) hE
  ·exact pputs_in (fun _ => .inl rfl) hin
  ·intro j f hf
   cases j with
   | zero =>
    obtain rfl := Option.some.inj hf
    exact ⟨_, rfl, hfo.fn, hfo.blk, by show top.at_ + 1 = g.at_ + 1; rw [hfo.at_], hfo.to_, hfo.er, hfo.inp⟩
   | succ j => exact hrk j f hf
  ·exact hb1
  ·have h3 := Cls.fr_push hcl (fun k hk => by rw [show k = top.bf from hk]; exact hbf0) (fun k hk => by rw [show k = top.bp from hk]; exact hbp0)
   have e : (rest.map FR.bf).reverse ++ [top.bf, bf2] = ptL ⟨bf2, bp2, fn2, 0, 0, i.to_, pputs [] b2.params (i.args.map (pget top.mp))⟩ (⟨top.bf, top.bp, top.fn, top.blk, top.at_ + 1, top.to_, top.mp⟩ :: rest) := by simp [ptL]
   rw [e] at h3
   exact h3
 have hfin : ∀ (z : XS) (f : Fin) (mp' : VM), FinR f z.m z.out → Cls (blk top.bf 195 (frC top.fn top.blk (top.at_ + 1) top.to_ top.bp) :: mapI top.bp (mc mp') :: row s0.heap.size Os x.m.qs x.m.ns x.m.cs 192 1 (ptrs ((rest.map FR.bf).reverse ++ [top.bf])) :: xI s0.heap.size bm z (bag s0.heap.size (frI rest) :: H)) S w' → StepPost x.m.qF fns.length bm s0 S H (.fin f) w' := by
  intro z f mp' hz hcl
  refine ⟨z.m, z.out, z.Oo, [blk top.bf 195 (frC top.fn top.blk (top.at_ + 1) top.to_ top.bp), mapI top.bp (mc mp'), row s0.heap.size Os x.m.qs x.m.ns x.m.cs 192 1 (ptrs ((rest.map FR.bf).reverse ++ [top.bf])), pool (pvR pF) s0.heap.size z.Op z.L, bag s0.heap.size (arI z.A), bag s0.heap.size (frI rest)], hz, fun j hj k hk => ?_, hcl.perm (List.Perm.append_right _ (List.perm_append_comm (l₁ := [_, _, _]) (l₂ := [_, _])))⟩
  simp only [List.mem_cons, List.not_mem_nil, or_false] at hj
  rcases hj with rfl | rfl | rfl | rfl | rfl | rfl
  ·rw [show k = top.bf from hk]; exact hbf0
  ·rw [show k = top.bp from hk]; exact hbp0
  ·exact hk.1
  ·exact hk.1
  ·exact hk.1
  ·exact hk.1
 rcases h2 with ⟨e13, bf2, bp2, c', O', q', hb0, hcl⟩ | ⟨e14, hclo, bf2, bp2, c', O', q', hb0, hcl⟩ | ⟨e14, hclo, hcl⟩ | ⟨e13, e14, v, t, x', hQ, hcl⟩
 ·rw [if_pos e13]
  exact hent i.n (by rw [(hn13 e13).1, Int.toNat_natCast]) bf2 bp2 c' O' q' hb0 hcl
 ·have hk := of_decide_eq_true hclo
  have h3 := hav (h14l e14)
  have h4 : v0.n.toNat = fn2 := by
   have := (hn14 e14 hk.1).1
   rw [← h3.num (by omega), this, Int.toNat_natCast]
  rw [if_neg (by omega), if_pos e14, if_pos ⟨by rw [← h3.k]; exact hk.1, by rw [h4, hpar]; exact hk.2⟩]
  exact hent v0.n h4 bf2 bp2 c' O' q' hb0 hcl
 ·have hk := of_decide_eq_false hclo
  have h3 := hav (h14l e14)
  rw [if_neg (by omega), if_pos e14, if_neg]
  ·refine hfin _ _ top.mp ?_ hcl
   exact ⟨h.ok.sh, rfl, rfl, rfl, h.out, h.lf, h.ok.no⟩
  ·rintro ⟨g1, g2⟩
   have hk2 : a0.k = 2 := by rw [h3.k]; exact g1
   have h4 : v0.n.toNat = fn2 := by
    have := (hn14 e14 hk2).1
    rw [← h3.num (by omega), this, Int.toNat_natCast]
   rw [h4, hpar] at g2
   exact hk ⟨hk2, g2⟩
 ·rw [if_neg e13, if_neg e14]
  have hQ' : ExQ (insP i.op i.n (i.args.map g.vals) A out) x x' v t := by
   have := hQ
   rwa [h.out] at this
  cases hr : insP i.op i.n (i.args.map g.vals) A out with
  | trap t' =>
   rw [hr] at hQ'
   obtain ⟨rfl, g2, g3⟩ := hQ'
   have ht := insP_trap hio e13 e14 hr
   rcases hcl with ⟨_, hcl⟩ | ⟨h0, _⟩
   ·refine hfin _ _ _ ?_ hcl
    refine ⟨by show x'.m.sh = false; rw [g2]; exact h.ok.sh, rfl, rfl, rfl, by show x'.out = out; rw [g3]; exact h.out, by show x'.m.left = _; rw [g2]; exact h.lf, by show x'.m.no = x'.out.length; rw [g2, g3]; exact h.ok.no⟩
   ·exact absurd h0 ht
  | ok sv sA' out' c =>
   rw [hr] at hQ'
   obtain ⟨rfl, hq⟩ := hQ'
   rcases hcl with ⟨h0, _⟩ | ⟨_, hcl⟩
   ·exact absurd rfl h0
   rcases hq with ⟨q1, q2, q3⟩ | ⟨q1, q2, q3, q4, q5, q6, ⟨ex, q7⟩, q8, q9⟩
   ·have hlf := h.lf
    dsimp only
    rw [if_pos (by omega)]
    exact hfin _ _ _ ⟨q2, q3⟩ hcl
   ·have hlf := h.lf
    dsimp only
    rw [if_neg (by omega)]
    have hup : ∀ {f : FR} {k : Frm}, FOk x.bs x.L f k → FOk x'.bs x'.L f k := fun {f k} hf => by rw [q7]; exact hf.ext ex q8
    have hft := hup hfo
    refine ⟨x', ⟨top.bf, top.bp, top.fn, top.blk, top.at_ + 1, top.to_, pput top.mp i.to_ v⟩, rest, Os, ⟨q4.qF, by rw [q4.nF]; exact hnf, ⟨_, _, rfl, ⟨hfo.fn, hfo.blk, by show top.at_ + 1 = g.at_ + 1; rw [hfo.at_], hfo.to_, pput_er hft.er q6, pput_in hft.inp q9⟩, hrl, fun j f hf => ?_⟩, q2, q3, ?_, by rw [q4.ns]; exact hns, ?_, by rw [q4.ov]; exact h.ov⟩, ⟨hbf0, hbp0⟩, ?_⟩
    ·obtain ⟨k, h1, h2⟩ := hrk j f hf
     exact ⟨k, h1, hup h2⟩
    ·show x'.m.left = ((left - 1 - c : Nat) : Int)
     rw [q5, hlf]
     exact hcast c (by rw [← hlf]; exact q1)
    ·rw [q4.ns]
     exact hb2x c
    ·rw [← q4.qs, ← q4.ns, ← q4.cs] at hcl
     exact hcl
end Go.Proofs.Ytehelljmaiophaa.ss

/- The walk of ssa's machine: a step at a block's end. Conditions: none. -/
namespace Go.Ss
def endP (fs : List Fn) (t : Tm) (g : Frm) (K : List Frm) (A : List (List SV)) (out : List Int) (left : Nat) : Stp :=
 if t.kind = 4 then .fin (.done t.n 0 out left)
 else if t.kind = 1 then .next ⟨folF fs g (t.to_.getD 0 noE) :: K, A, out, left⟩
 else if t.kind = 0 then
  match K with
  | [] => .fin (.done 0 (if (g.vals t.arg).k = 0 ∨ (g.vals t.arg).k = 1 then (g.vals t.arg).n else 0) out left)
  | g2 :: K' => .next ⟨⟨g2.fn, g2.blk, g2.at_, g2.to_, setV g2.vals g.to_ (g.vals t.arg)⟩ :: K', A, out, left⟩
 else if (g.vals t.arg).k ≠ 0 then .fin (.done 5 0 out left)
 else .next ⟨folF fs g (t.to_.getD (chooseE t (g.vals t.arg).n) noE) :: K, A, out, left⟩
theorem stepP_none {fs : List Fn} {g : Frm} {K : List Frm} {A : List (List SV)} {out : List Int} {left : Nat} (hl : left ≠ 0) (hi : ((fnB fs g.fn).getD g.blk noB).ins[g.at_]? = none) : stepP fs ⟨g :: K, A, out, left⟩ = endP fs ((fnB fs g.fn).getD g.blk noB).term g K A out (left - 1) := by
 unfold stepP endP
 simp only [hl, if_false, hi]
 cases K <;> rfl
end Go.Ss
namespace Go.Eng
open Go.RowKit
section
variable {H : List Item} {S : List World} {w : World} {a b X c d e p q g : Item}
theorem Cls.xlast (h : Cls (a :: b :: X :: c :: d :: e :: p :: q :: g :: H) S w) : Cls (a :: b :: c :: d :: e :: p :: q :: g :: X :: H) S w := h.perm (.cons _ (.cons _ (List.perm_middle (l₁ := [c, d, e, p, q, g]) (l₂ := H)).symm))
theorem Cls.sw2 (h : Cls (a :: b :: c :: d :: H) S w) : Cls (a :: b :: d :: c :: H) S w := h.perm (.cons _ (.cons _ (List.Perm.swap _ _ _)))
end
end Go.Eng
namespace Go.Proofs.Ytehelljmaiophaa.ss
set_option maxRecDepth 100000
open Go.Eng Go.RowKit Go.Ss
theorem step_none (fns : List (Go.Ss.Fn × FnY)) (qF : Option Addr) (hU : UOk (fns.map Prod.fst)) (M : Mch) (hM : MOk (fns.map Prod.fst) M) (hl : M.left ≠ 0) (x : XS) (top : FR) (rest : List FR) (Os : Nat → Prop) (h : StOk qF fns.length M x top rest ((M.left - 1 : Nat) : Int)) (hbg : (x.m.ns : Int) + (M.left : Int) ≤ 100001) (bm : Nat) (g : Frm) (K : List Frm) (hst : M.st = g :: K) (hi : ((fnB (fns.map Prod.fst) g.fn).getD g.blk noB).ins[g.at_]? = none)
  (H : List Eng.Item) (S : List World) (s0 : World) (hs0 : s0 ∈ S) (hA : ∀ k, s0.heap.size ≤ k → AllLe S k) (hu : Arr fnR s0 (low s0) fns qF) (hbf0 : s0.heap.size ≤ top.bf) (hbp0 : s0.heap.size ≤ top.bp) (hbm0 : s0.heap.size ≤ bm) (hno : ∀ k, k < s0.heap.size → NotOwned H k) (w : World) (hc : Cls (sI s0.heap.size bm x top rest Os H) S w) :
  Calls Try.prog 110 [.pointer (some ⟨bm, 0, none⟩)].toArray w fun e w' => e = .returned (.tuple #[]) ∧ StepPost qF fns.length bm s0 S H (stepP (fns.map Prod.fst) M) w' := by
 obtain ⟨g', K', hst', hfo, hrl, hrk⟩ := h.st
 rw [hst] at hst'
 obtain ⟨rfl, rfl⟩ := List.cons.inj hst'
 obtain ⟨st, A, out, left⟩ := M
 simp only at hst hl h hbg
 subst hst
 have hb1 : (x.m.ns : Int) + ((left - 1 : Nat) : Int) ≤ 100001 := by omega
 have hb2 : ((x.m.ns - 1 : Nat) : Int) + ((left - 1 : Nat) : Int) ≤ 100001 := by omega
 have hns6 : x.m.ns ≤ 900000 := by have := h.big; omega
 have hgo := hM.st g (.head _)
 obtain ⟨p, hp⟩ := fns_at hgo.f
 have hfb := fnB_map hp
 have hgb := hgo.b
 have hT := hU.term hgo.f hgo.b
 have hat := hgo.a
 have hval : ∀ k, WfV (fns.map Prod.fst).length A.length (g.vals k) := hgo.v
 have hfol : ∀ e, parB (fns.map Prod.fst) g.fn e = ((fnB (fns.map Prod.fst) g.fn).getD e noB).params := fun e => rfl
 rw [hfb] at hi hgb hT hat hfol
 obtain ⟨b, hb⟩ : ∃ b, p.1.blocks.getD g.blk noB = b := ⟨_, rfl⟩
 rw [hb] at hi hT hat
 have hbb : p.1.blocks[g.blk]? = some b := by rw [← hb]; exact getD_bk hgb
 have hate : g.at_ = b.ins.length := by
  have := List.getElem?_eq_none_iff.1 hi
  omega
 obtain ⟨hsh, hcs, htr, hedge⟩ := hT
 obtain ⟨t, ht⟩ : ∃ t, b.term = t := ⟨_, rfl⟩
 rw [ht] at hsh hcs htr hedge
 have hns := h.ns
 have hqf := h.qf
 have hnf := h.nf
 subst hqf
 have hsz : ∀ (z : XS), z.m.left = x.m.left → z.m.sh = x.m.sh → z.m.no = x.m.no → z.out = x.out → z.A = x.A → z.L = x.L → XOk z A := fun z h1 h2 h3 h4 h5 h6 => by
  have ho := h.ok
  have hbs : z.bs = x.bs := by unfold XS.bs; rw [h5]
  exact ⟨by rw [h3, h4]; exact ho.no, by rw [h4]; exact ho.ol, by rw [h5]; exact ho.al, by rw [h5, hbs]; exact ho.ar, by rw [h5, h6]; exact ho.ai, by rw [h5]; exact ho.a1, by rw [h2]; exact ho.sh, by rw [h1]; exact ho.l0, by rw [h1]; exact ho.l6⟩
 have hkk := shape_kind hsh
 rw [stepP_none hl (by rw [hfb, hb]; exact hi), hfb, hb, ht]
 refine step_end fns bm top.bf top.fn top.blk top.at_ top.to_ top.bp top.mp x hnf p (by rw [hfo.fn]; exact hp) b (by rw [hfo.blk]; exact hbb) Os ((rest.map FR.bf).reverse) (by rw [hns]; simp) hns6 (bag s0.heap.size (frI rest) :: H) S s0 hs0 hu hbf0 hbp0 hbm0 (fun k hk => NotOwned.bag hk (hno k hk)) (by rw [hfo.at_]; exact hate) _ (fun y hTm X w2 hX hc2 => ?_) w hc
 rw [ht] at hTm ⊢
 have hno' : ∀ (L : List Eng.Item), (∀ i ∈ L, ∀ k, i.own k → s0.heap.size ≤ k) → ∀ k, k < s0.heap.size → NotOwned (L ++ H) k := by
  intro L
  induction L with
  | nil => intro _ k hk; exact hno k hk
  | cons i L ih => intro hL k hk; exact NotOwned.any (fun ho => by have := hL i (.head _) k ho; omega) (ih (fun j hj => hL j (.tail _ hj)) k hk)
 have hXs : ∀ k, X.own k → s0.heap.size ≤ k := fun k hk => (hX k hk).mem s0 hs0
 have hc3 := Cls.sw2 (Cls.xlast hc2)
 clear hc2
 -- what ends
 have hfin : ∀ (w' : World) (m : MS) (f : Fin) (ns2 : Nat) (Os2 : Nat → Prop) (q2 : Option Addr) (c2 : Nat) (xs : List Value), m.qo = x.m.qo → m.no = x.m.no → m.co = x.m.co → FinR f m x.out → Cls (blk top.bf 195 (frC top.fn top.blk top.at_ top.to_ top.bp) :: mapI top.bp (mc top.mp) :: blk bm 160 m.c :: row s0.heap.size Os2 q2 ns2 c2 192 1 xs :: row s0.heap.size x.Oo x.m.qo x.m.no x.m.co 3 1 (ints x.out) :: pool (pvR pF) s0.heap.size x.Op x.L :: bag s0.heap.size (arI x.A) :: bag s0.heap.size (frI rest) :: X :: H) S w' → StepPost x.m.qF fns.length bm s0 S H (.fin f) w' := by
  intro w' m f ns2 Os2 q2 c2 xs e1 e2 e3 hf hcl
  refine ⟨m, x.out, x.Oo, [blk top.bf 195 (frC top.fn top.blk top.at_ top.to_ top.bp), mapI top.bp (mc top.mp), row s0.heap.size Os2 q2 ns2 c2 192 1 xs, pool (pvR pF) s0.heap.size x.Op x.L, bag s0.heap.size (arI x.A), bag s0.heap.size (frI rest), X], hf, fun j hj k hk => ?_, ?_⟩
  ·simp only [List.mem_cons, List.not_mem_nil, or_false] at hj
   rcases hj with rfl | rfl | rfl | rfl | rfl | rfl | rfl
   ·rw [show k = top.bf from hk]; exact hbf0
   ·rw [show k = top.bp from hk]; exact hbp0
   ·exact hk.1
   ·exact hk.1
   ·exact hk.1
   ·exact hk.1
   ·exact hXs k hk
  ·rw [e1, e2, e3]
   have h1 := hcl.perm (List.perm_middle (l₁ := [_, _, _, _]) (l₂ := _))
   exact h1.perm (List.perm_middle (l₁ := [_, _, _]) (l₂ := _))
 -- what goes on in the frame
 have hnx : ∀ (w' : World) (e : Ed) (k : Nat), e.block = (k : Int) → k < p.1.blocks.length → Cls (blk top.bf 195 (frC top.fn k 0 top.to_ top.bp) :: mapI top.bp (mc (pputs top.mp (p.1.blocks.getD k noB).params (e.args.map (pget top.mp)))) :: blk bm 160 x.m.c :: row s0.heap.size Os x.m.qs x.m.ns x.m.cs 192 1 (ptrs ((rest.map FR.bf).reverse ++ [top.bf])) :: row s0.heap.size x.Oo x.m.qo x.m.no x.m.co 3 1 (ints x.out) :: pool (pvR pF) s0.heap.size x.Op x.L :: bag s0.heap.size (arI x.A) :: bag s0.heap.size (frI rest) :: X :: H) S w' → StepPost x.m.qF fns.length bm s0 S H (.next ⟨folF (fns.map Prod.fst) g e :: K, A, out, left - 1⟩) w' := by
  intro w' e k hek hkl hcl
  refine ⟨x, ⟨top.bf, top.bp, top.fn, k, 0, top.to_, pputs top.mp (p.1.blocks.getD k noB).params (e.args.map (pget top.mp))⟩, rest, Os, ⟨rfl, hnf, ⟨_, _, rfl, ⟨hfo.fn, by show k = e.block.toNat; omega, rfl, hfo.to_, ?_, ?_⟩, hrl, hrk⟩, h.ok, h.out, h.lf, hns, hb1, h.ov⟩, ⟨hbf0, hbp0⟩, ?_⟩
  ·show ∀ j, Er (bxN x.bs) (pget (pputs top.mp (p.1.blocks.getD k noB).params (e.args.map (pget top.mp))) j) (setVs g.vals (parB (fns.map Prod.fst) g.fn e.block.toNat) (e.args.map g.vals) j)
   rw [hek, Int.toNat_natCast, show parB (fns.map Prod.fst) g.fn k = (p.1.blocks.getD k noB).params by unfold parB; rw [hfb]]
   exact pputs_er hfo.er (Ers.map _ _ fun j _ => hfo.er j)
  ·exact pputs_in hfo.inp (fun q hq => by
    obtain ⟨j, _, rfl⟩ := List.mem_map.1 hq
    exact hfo.inp j)
  ·have h1 := hcl.sw2
   exact h1.thin (.keep (.keep (.keep (.keep (.keep (.keep (.keep (.keep (.any hX Thin.same)))))))))
 have hJ : ∀ k, k < s0.heap.size → NotOwned (row s0.heap.size Os x.m.qs x.m.ns x.m.cs 192 1 (ptrs ((rest.map FR.bf).reverse ++ [top.bf])) :: row s0.heap.size x.Oo x.m.qo x.m.no x.m.co 3 1 (ints x.out) :: pool (pvR pF) s0.heap.size x.Op x.L :: bag s0.heap.size (arI x.A) :: bag s0.heap.size (frI rest) :: X :: H) k := fun k hk => NotOwned.row hk (NotOwned.row hk (NotOwned.pool hk (NotOwned.bag hk (NotOwned.bag hk (NotOwned.any (fun ho => Nat.not_le_of_lt hk (hXs k ho)) (hno k hk))))))
 have hJ3 : ∀ (r : List FR) k, k < s0.heap.size → NotOwned (row s0.heap.size x.Oo x.m.qo x.m.no x.m.co 3 1 (ints x.out) :: pool (pvR pF) s0.heap.size x.Op x.L :: bag s0.heap.size (arI x.A) :: bag s0.heap.size (frI r) :: X :: H) k := fun r k hk => NotOwned.row hk (NotOwned.pool hk (NotOwned.bag hk (NotOwned.bag hk (NotOwned.any (fun ho => Nat.not_le_of_lt hk (hXs k ho)) (hno k hk)))))
 have hJ2 := hJ3 rest
 have h257 : t.to_.length ≤ 257 := shape_to hsh hcs
 have hed : ∀ e ∈ t.to_, ∃ k2 : Nat, e.block = (k2 : Int) ∧ p.1.blocks[k2]? = some (p.1.blocks.getD k2 noB) ∧ k2 < p.1.blocks.length ∧ (p.1.blocks.getD k2 noB).params.length = e.args.length ∧ e.args.length ≤ 1000000 := fun e he => by
  obtain ⟨k2, h1, h2, h3⟩ := hedge e he
  have h4 := getD_bk h2
  have h5 := params_lim (hU.shape hgo.f).1 (k := k2) (b := p.1.blocks.getD k2 noB) (by rw [hfb]; exact h4)
  have h6 : (p.1.blocks.getD k2 noB).params.length = e.args.length := by
   rw [← h3]
   unfold parB
   rw [hfb]
  exact ⟨k2, h1, h4, h2, h6, by omega⟩
 have hfp : fns[top.fn]? = some p := by rw [hfo.fn]; exact hp
 unfold endP
 by_cases h4 : t.kind = 4
 ·rw [if_pos h4]
  refine (end_trap bm x.m top.bf top.fn top.blk top.at_ top.to_ top.bp top.mp t y h4 _ S s0 hs0 hbf0 hbp0 hbm0 hJ w2 hc3).mono fun e w' ⟨h1, h2⟩ => ⟨h1, ?_⟩
  exact hfin w' { x.m with ov := true, en := t.n, va := 0 } (.done t.n 0 out (left - 1)) _ _ _ _ _ rfl rfl rfl ⟨h.ok.sh, rfl, rfl, rfl, h.out, h.lf, h.ok.no⟩ h2
 rw [if_neg h4]
 by_cases h1 : t.kind = 1
 ·rw [if_pos h1]
  have hj := jump_one hsh h1
  have hte : t.to_[0]? = some (t.to_.getD 0 noE) := by rw [List.getD_eq_getElem?_getD, List.getElem?_eq_getElem hj]; rfl
  obtain ⟨k2, g1, g2, g3, g4, g5⟩ := hed _ (List.mem_of_getElem? hte)
  refine (end_jump bm x.m top.bf top.fn top.blk top.at_ top.to_ top.bp top.mp t y _ S s0 h1 fns p hfp hu hnf hTm h257 (t.to_.getD 0 noE) k2 g1 _ g2 g4 g5 hte hs0 hbf0 hbp0 hbm0 hJ w2 hc3).mono fun e w' ⟨h1, h2⟩ => ⟨h1, ?_⟩
  exact hnx w' _ k2 g1 g3 h2
 rw [if_neg h1]
 by_cases h0 : t.kind = 0
 ·rw [if_pos h0]
  have hev := hfo.er t.arg
  cases K with
  | nil =>
   obtain rfl : rest = [] := List.length_eq_zero_iff.1 hrl
   have hns1 : x.m.ns = 1 := hns
   refine (end_last bm x.m top.bf top.fn top.blk top.at_ top.to_ top.bp top.mp t y h0 Os s0.heap.size hns1 _ S s0 hs0 hbf0 hbp0 hbm0 (fun k hk => hJ2 k hk) w2 hc3).mono fun e w' ⟨h1, h2⟩ => ⟨h1, ?_⟩
   refine hfin w' { x.m with ns := 0, ov := true, en := 0, va := if (pget top.mp t.arg).k = 0 ∨ (pget top.mp t.arg).k = 1 then (pget top.mp t.arg).n else 0 } (.done 0 (if (g.vals t.arg).k = 0 ∨ (g.vals t.arg).k = 1 then (g.vals t.arg).n else 0) out (left - 1)) 0 Os _ _ [] rfl rfl rfl ⟨h.ok.sh, rfl, rfl, ?_, h.out, h.lf, h.ok.no⟩ h2
   show (if (pget top.mp t.arg).k = 0 ∨ (pget top.mp t.arg).k = 1 then (pget top.mp t.arg).n else 0) = _
   have hk1 := hev.k
   by_cases hz : (g.vals t.arg).k = 0 ∨ (g.vals t.arg).k = 1
   ·rw [if_pos hz, if_pos (by rw [hk1]; exact hz)]
    exact hev.num (by omega)
   ·rw [if_neg hz, if_neg (by rw [hk1]; exact hz)]
  | cons g2 K' =>
   match rest, hrl, hrk, hc3, hns, hfin, hJ2 with
   | f2 :: rest2, hrl, hrk, hc3, hns, _, hJ2 =>
   obtain ⟨g3, hg3, hf2⟩ := hrk 0 f2 rfl
   obtain rfl := Option.some.inj hg3
   have hc4 := Cls.fr_pop (i := blk f2.bf 195 (frC f2.fn f2.blk f2.at_ f2.to_ f2.bp)) (j := mapI f2.bp (mc f2.mp)) (L := frI rest2) hc3
   have hlo : s0.heap.size ≤ f2.bf ∧ s0.heap.size ≤ f2.bp := by
    have hh := (hc3.holds (bag s0.heap.size (frI (f2 :: rest2))) (by simp)).1
    exact ⟨(hh (blk f2.bf 195 (frC f2.fn f2.blk f2.at_ f2.to_ f2.bp)) (.head _)).2 _ rfl, (hh (mapI f2.bp (mc f2.mp)) (.tail _ (.head _))).2 _ rfl⟩
   have hpe : ((f2 :: rest2).map FR.bf).reverse ++ [top.bf] = (rest2.map FR.bf).reverse ++ [f2.bf, top.bf] := by simp
   rw [hpe] at hc4
   have hns2 : x.m.ns = rest2.length + 2 := hns
   refine (end_ret bm x.m top.bf top.fn top.blk top.at_ top.to_ top.bp top.mp t y h0 f2.bf f2.bp f2.fn f2.blk f2.at_ f2.to_ f2.mp Os s0.heap.size (rest2.map FR.bf).reverse (by simp; omega) (by omega) _ S s0 hs0 hbf0 hbp0 hbm0 (fun k hk => hJ3 rest2 k hk) w2 hc4).mono fun e w' ⟨h1, h2⟩ => ⟨h1, ?_⟩
   refine ⟨{ x with m := { x.m with ns := x.m.ns - 1 } }, ⟨f2.bf, f2.bp, f2.fn, f2.blk, f2.at_, f2.to_, pput f2.mp top.to_ (pget top.mp t.arg)⟩, rest2, Os, ⟨rfl, hnf, ⟨_, _, rfl, ⟨hf2.fn, hf2.blk, hf2.at_, hf2.to_, ?_, pput_in hf2.inp (hfo.inp _)⟩, by simpa using hrl, fun i f hf => hrk (i + 1) f hf⟩, hsz _ rfl rfl rfl rfl rfl rfl, h.out, h.lf, by show x.m.ns - 1 = _; omega, hb2, h.ov⟩, hlo, ?_⟩
   ·rw [← hfo.to_]
    exact pput_er hf2.er hev
   ·have h3 := h2.thin (.any (fun k hk => by rw [show k = top.bf from hk]; exact hA _ hbf0) (.any (fun k hk => by rw [show k = top.bp from hk]; exact hA _ hbp0) (.keep (.keep (.keep (.keep (.keep (.keep (.keep (.keep (.any hX Thin.same)))))))))))
    exact h3.sw2
 rw [if_neg h0]
 have hkw : t.kind = 2 ∨ t.kind = 3 := by omega
 have hlt := choose_lt hsh hkw (g.vals t.arg).n
 have hev := hfo.er t.arg
 have hlt0 := choose_lt hsh hkw (pget top.mp t.arg).n
 obtain ⟨e0, he0⟩ : ∃ e0, t.to_.getD (chooseE t (pget top.mp t.arg).n) noE = e0 := ⟨_, rfl⟩
 have hte : t.to_[chooseE t (pget top.mp t.arg).n]? = some e0 := by rw [← he0, List.getD_eq_getElem?_getD, List.getElem?_eq_getElem hlt0]; rfl
 obtain ⟨k2, g1, g2, g3, g4, g5⟩ := hed _ (List.mem_of_getElem? hte)
 refine (end_sw bm x.m top.bf top.fn top.blk top.at_ top.to_ top.bp top.mp t y _ S s0 hkw fns p hfp hu hnf hTm h257 e0 k2 g1 _ g2 g4 g5 hcs hte hs0 hbf0 hbp0 hbm0 hJ w2 hc3).mono fun e w' ⟨h1, h2⟩ => ⟨h1, ?_⟩
 rcases h2 with ⟨hk, h2⟩ | ⟨hk, h2⟩
 ·rw [if_pos (by rw [← hev.k]; exact hk)]
  exact hfin w' { x.m with ov := true, en := 5, va := 0 } (.done 5 0 out (left - 1)) _ _ _ _ _ rfl rfl rfl ⟨h.ok.sh, rfl, rfl, rfl, h.out, h.lf, h.ok.no⟩ h2
 ·rw [if_neg (by rw [← hev.k, hk]; decide), ← hev.num (by omega), he0]
  exact hnx w' e0 k2 g1 g3 h2
end Go.Proofs.Ytehelljmaiophaa.ss

/- The walk of ssa.Perform: the machine's steps until it ends. Conditions: none. -/
namespace Go.Eng
open Go.RowKit
theorem Thin.all {S : List World} : ∀ {J : List Item}, (∀ i ∈ J, ∀ k, i.own k → AllLe S k) → Thin S J []
 | [], _ => .nil
 | i :: J, h => .any (h i (.head _)) (Thin.all fun j hj => h j (.tail _ hj))
end Go.Eng
namespace Go.Ss
open Go.Eng Go.RowKit
theorem stepP_left {fs : List Fn} {M M' : Mch} (h : stepP fs M = .next M') : M'.left < M.left := by
 obtain ⟨st, A, out, left⟩ := M
 cases st with
 | nil => cases h
 | cons f K =>
  unfold stepP at h
  simp only at h
  by_cases hl : left = 0
  ·rw [if_pos hl] at h; cases h
  rw [if_neg hl] at h
  have fin : ∀ {a b c n}, Stp.next ⟨a, b, c, n⟩ = .next M' → n < left → M'.left < left := fun h hn => by
   obtain rfl := Stp.next.inj h
   exact hn
  split at h
  ·split at h
   ·exact fin h (by omega)
   split at h
   ·split at h
    ·exact fin h (by omega)
    ·cases h
   split at h
   ·cases h
   ·split at h
    ·cases h
    ·exact fin h (by omega)
  ·split at h
   ·cases h
   split at h
   ·exact fin h (by omega)
   split at h
   ·split at h
    ·cases h
    ·exact fin h (by omega)
   split at h
   ·cases h
   ·exact fin h (by omega)
theorem stepP_fin {fs : List Fn} {M : Mch} {en va : Int} {o : List Int} {l : Nat} (h : stepP fs M = .fin (.done en va o l)) : l ≤ M.left := by
 obtain ⟨st, A, out, left⟩ := M
 cases st with
 | nil => cases h
 | cons f K =>
  unfold stepP at h
  simp only at h
  have fin : ∀ {a b c n}, Stp.fin (.done a b c n) = .fin (.done en va o l) → n ≤ left → l ≤ left := fun h hn => by
   injection h with h
   injection h with _ _ _ h
   omega
  by_cases hl : left = 0
  ·rw [if_pos hl] at h; cases h
  rw [if_neg hl] at h
  split at h
  ·split at h
   ·cases h
   split at h
   ·split at h
    ·cases h
    ·exact fin h (by omega)
   split at h
   ·exact fin h (by omega)
   ·split at h <;> cases h
  ·split at h
   ·exact fin h (by omega)
   split at h
   ·cases h
   split at h
   ·split at h
    ·exact fin h (by omega)
    ·cases h
   split at h
   ·exact fin h (by omega)
   ·cases h
theorem Ends.left {fs : List Fn} {M : Mch} {en va : Int} {o : List Int} {l : Nat} (h : Ends fs M (.done en va o l)) : l ≤ M.left := by
 obtain ⟨M', h1, h2⟩ := h
 induction h1 with
 | refl => exact stepP_fin h2
 | step h _ ih =>
  have := stepP_left h
  have := ih h2
  omega
end Go.Ss
namespace Go.Proofs.Ytehelljmaiophaa.ss
set_option maxRecDepth 100000
open Go.Eng Go.RowKit Go.Ss
theorem step_calls (fns : List (Go.Ss.Fn × FnY)) (qF : Option Addr) (hU : UOk (fns.map Prod.fst)) (M : Go.Ss.Mch) (hM : MOk (fns.map Prod.fst) M) (hl : M.left ≠ 0) (x : XS) (top : FR) (rest : List FR) (Os : Nat → Prop) (h : StOk qF fns.length M x top rest ((M.left - 1 : Nat) : Int)) (hbg : (x.m.ns : Int) + (M.left : Int) ≤ 100001) (bm : Nat)
  (H : List Eng.Item) (S : List World) (s0 : World) (hs0 : s0 ∈ S) (hA : ∀ k, s0.heap.size ≤ k → AllLe S k) (hu : Arr fnR s0 (low s0) fns qF) (hbf0 : s0.heap.size ≤ top.bf) (hbp0 : s0.heap.size ≤ top.bp) (hbm0 : s0.heap.size ≤ bm) (hno : ∀ k, k < s0.heap.size → NotOwned H k) (w : World) (hc : Cls (sI s0.heap.size bm x top rest Os H) S w) :
  Calls Try.prog 110 [.pointer (some ⟨bm, 0, none⟩)].toArray w fun e w' => e = .returned (.tuple #[]) ∧ StepPost qF fns.length bm s0 S H (stepP (fns.map Prod.fst) M) w' := by
 obtain ⟨g, K, hst, _⟩ := h.st
 cases hi : ((fnB (fns.map Prod.fst) g.fn).getD g.blk noB).ins[g.at_]? with
 | none => exact step_none fns qF hU M hM hl x top rest Os h hbg bm g K hst hi H S s0 hs0 hA hu hbf0 hbp0 hbm0 hno w hc
 | some i => exact step_some fns qF hU M hM hl x top rest Os h hbg bm g K hst i hi H S s0 hs0 hu hbf0 hbp0 hbm0 hno w hc
structure XPe where
 old : Nat → Value
inductive PG where
 | on (M : Go.Ss.Mch) (x : XS) (top : FR) (rest : List FR) (Os : Nat → Prop)
 | off (f : Go.Ss.Fin) (m : MS) (out : List Int) (Oo : Nat → Prop) (J : List Eng.Item)
def PG.inv (fs : List Go.Ss.Fn) (M0 : Go.Ss.Mch) (qF : Option Addr) (nF B : Nat) : PG → Prop
 | .on M x top rest Os => Go.Ss.Steps fs M0 M ∧ MOk fs M ∧ StOk qF nF M x top rest M.left ∧ B ≤ top.bf ∧ B ≤ top.bp
 | .off f m out Oo J => Go.Ss.Ends fs M0 f ∧ FinR f m out ∧ ∀ i ∈ J, ∀ k, i.own k → B ≤ k
def PG.cls (B bm : Nat) (H : List Eng.Item) : PG → List Eng.Item
 | .on M x top rest Os => sI B bm x top rest Os H
 | .off f m out Oo J => blk bm 160 m.c :: row B Oo m.qo m.no m.co 3 1 (ints out) :: (H ++ J)
def PG.mu : PG → Nat
 | .on M x top rest Os => M.left + 1
 | .off f m out Oo J => 0
def PerfPost (w : World) (fuel : Int) (f : Go.Ss.Fin) (e : Ending) (w' : World) : Prop := match f with
 | .short => e = .returned (.tuple #[.agg #[.slice none 0 0, .int .i64 0, .int .i64 0], .int .i64 0, .int .i64 13]) ∧ Cls [] [w] w'
 | .done en va out left => ∃ (O : Nat → Prop) (q : Option Addr) (c : Nat), e = .returned (.tuple #[.agg #[.slice q out.length c, .int .i64 en, .int .i64 va], .int .i64 (fuel - left), .int .i64 0]) ∧ Cls [row w.heap.size O q out.length c 3 1 (ints out)] [w] w'
theorem Perform_calls (fns : List (Go.Ss.Fn × FnY)) (q : Option Addr) (c : Nat) (main : Nat) (fuel : Nat) (hU : UOk (fns.map Prod.fst)) (hf1 : 1 ≤ fuel) (hf : fuel ≤ 100000) (hm : main < fns.length) (hm6 : fns.length ≤ 100000) (hp0 : parB (fns.map Prod.fst) main 0 = []) (w : World) (hu : Arr fnR w (low w) fns q) :
  Calls Try.prog 70 [.agg #[.slice q fns.length c, .int .i64 (main : Int)], .int .i64 (fuel : Int)].toArray w fun e w' => ∃ f, Go.Ss.Ends (fns.map Prod.fst) ⟨[newF (fns.map Prod.fst) main [] 0], [], [], fuel⟩ f ∧ PerfPost w fuel f e w' := by
 obtain ⟨M0, hM0⟩ : ∃ M0 : Go.Ss.Mch, M0 = ⟨[newF (fns.map Prod.fst) main [] 0], [], [], fuel⟩ := ⟨_, rfl⟩
 rw [← hM0]
 obtain ⟨p, hp⟩ : ∃ p, fns[main]? = some p := ⟨_, List.getElem?_eq_getElem hm⟩
 have hmf : main < (fns.map Prod.fst).length := by simpa using hm
 have hfb := fnB_map hp
 have hb0 : p.1.blocks[0]? = some (p.1.blocks.getD 0 noB) := by
  have h1 := (hU.shape hmf).2
  rw [hfb] at h1
  exact getD_bk h1
 have hb0p : (p.1.blocks.getD 0 noB).params = [] := by
  have h1 := hp0
  unfold parB at h1
  rwa [hfb] at h1
 have hA : ∀ k, w.heap.size ≤ k → AllLe [w] k := fun k hk => ⟨hk, trivial⟩
 refine enter Try.func70 rfl Try.ntmps70 rfl (Cls.start w) (zen ?_)
 apply W.sr
 apply OL.box; rfl; rfl; exact CellsL.agg; (intro bk hbk; simp only [AllLe, and_true] at hbk)
 apply OL.alloc; rfl; rfl; exact CellsL.agg; (intro bk hbk; simp only [AllLe, and_true] at hbk)
 refine zgs ?_
 apply OL.box; rfl; rfl; exact CellsL.agg; (intro bk hbk; simp only [AllLe, and_true] at hbk)
 refine zgs ?_
 rename_i bU hbU bR hbR
 revert hbk
 revert bk
 intro bm hbm
 have hno : ∀ k, k < w.heap.size → NotOwned [blk bR 58 [Value.slice none 0 0, Value.int IntKind.i64 0, Value.int IntKind.i64 0], blk bU 55 [Value.slice q fns.length c, Value.int IntKind.i64 (main : Int)]] k := fun k hk => NotOwned.blk (by have : w.heap.size ≤ bR := hbR; omega) (NotOwned.blk (by have : w.heap.size ≤ bU := hbU; omega) NotOwned.nil)
 refine OL.callE (α := Nat × Nat × Nat × (Nat → Prop) × Option Addr) (fun _ => .tuple #[]) (fun g => AllLe [w] g.1 ∧ AllLe [w] g.2.1) (fun g => Cls [blk g.1 195 (frC main 0 0 0 g.2.1), mapI g.2.1 (mc []), blk bm 160 (MS.c ⟨q, fns.length, c, main, g.2.2.2.2, 1, g.2.2.1, fuel, false, false, none, 0, 0, 0, 0⟩), row w.heap.size g.2.2.2.1 g.2.2.2.2 1 g.2.2.1 192 1 (ptrs [g.1]), blk bR 58 [Value.slice none 0 0, Value.int IntKind.i64 0, Value.int IntKind.i64 0], blk bU 55 [Value.slice q fns.length c, Value.int IntKind.i64 (main : Int)]] [w]) rfl rfl (by exact Args.au) (fun w2 hw2 => (enter_calls w fns bm ⟨q, fns.length, c, main, none, 0, 0, fuel, false, false, none, 0, 0, 0, 0⟩ hu rfl main p hp _ hb0 [] none 0 0 (by rw [hb0p]; rfl) (by simp) 0 _ [w] (.head _) hno hbm (fun h => absurd rfl h) (fun _ => False) w.heap.size ⟨w, .head _, Nat.le_refl _⟩ (Nat.le_refl _) [] rfl (by simp) w2 ((hw2.row_nil w.heap.size 192 1).flip)).mono fun e w3 ⟨bf, bp, c', O', q', h1, h2, h3⟩ => ⟨⟨bf, bp, c', O', q'⟩, h2, h1, by rw [hb0p] at h3; exact h3⟩) ?_
 rintro ⟨bf, bp, c', O', q'⟩ ⟨hbf, hbp⟩
 simp only
 refine zgs ?_
 refine W.loop (G := PG) (PG.inv (fns.map Prod.fst) M0 q fns.length w.heap.size) PG.mu
  (fun _ => [(1, true, .int .i64 (fuel : Int)), (4, true, .pointer (some ⟨bR, 0, none⟩)), (7, true, .pointer (some ⟨bm, 0, none⟩))])
  (fun g => Cls (g.cls w.heap.size bm [blk bR 58 [Value.slice none 0 0, Value.int IntKind.i64 0, Value.int IntKind.i64 0], blk bU 55 [Value.slice q fns.length c, Value.int IntKind.i64 (main : Int)]]) [w])
  (.on M0 ⟨⟨q, fns.length, c, main, q', 1, c', fuel, false, false, none, 0, 0, 0, 0⟩, [], fun _ => False, [], fun _ => False, []⟩ ⟨bf, bp, main, 0, 0, 0, []⟩ [] O') ?_ (by exact Sub.au) (fun w' hw' => ?_) ?_
 ·subst hM0
  refine ⟨.refl _, ⟨fun g hg => ?_, fun l hl => by (cases hl), fun l hl => by (cases hl)⟩, ⟨rfl, rfl, ⟨_, _, rfl, ⟨by simp [newF], rfl, rfl, rfl, fun k => ?_, fun k => .inl rfl⟩, rfl, fun i f hf => by simp at hf⟩, ⟨rfl, by simp, rfl, fun j a ha => by simp at ha, fun a ha => by (cases ha), fun a ha => by (cases ha), rfl, by simp, by show (fuel : Int) ≤ _; omega⟩, rfl, rfl, rfl, by show ((1 : Nat) : Int) + (fuel : Int) ≤ _; omega, rfl⟩, hbf.1, hbp.1⟩
  ·obtain rfl := List.mem_singleton.1 hg
   refine ⟨by simpa [newF] using hm, ?_, Nat.zero_le _, fun k => ?_⟩
   ·have := (hU.shape hmf).2
    simpa [newF] using this
   ·simp only [newF, Int.toNat_natCast, hp0, setVs]
    exact WfV.zV
  ·simp only [newF, Int.toNat_natCast, hp0, setVs]
   exact bxN.z
 ·have h1 := ((((hw'.bag_nil w.heap.size).bag_nil w.heap.size).pool_nil (pvR pF) w.heap.size).row_nil w.heap.size 3 1)
  have h2 := h1.perm (List.Perm.append_right _ (List.perm_append_comm (l₁ := [_, _, _, _]) (l₂ := [_, _, _, _])))
  exact h2.perm (.cons _ (.cons _ (List.Perm.swap _ _ _)))
 intro g hg
 cases g with
 | off f m out Oo J =>
  obtain ⟨hE, hF, hJ⟩ := hg
  simp only [PG.cls, List.cons_append, List.nil_append]
  have hmc : m.c = [.slice m.qF m.nF m.cF, .int .i64 m.main, .slice m.qs m.ns m.cs, .int .i64 m.left, .bool m.sh, .bool true, .slice m.qo m.no m.co, .int .i64 m.en, .int .i64 m.va] := by
   unfold MS.c
   cases f with
   | short => rw [hF.2]
   | done => rw [hF.2.1]
  rw [hmc]
  refine zgs ?_
  refine W.cond rfl (fun h => absurd h (by decide)) (fun _ => ?_)
  refine zgs ?_
  cases f with
  | short =>
   rw [hF.1]
   refine W.cond rfl (fun _ => ?_) (fun h => absurd h (by decide))
   refine zgs ?_
   refine At.finCTT (b := bR) (cs := [.slice none 0 0, .int .i64 0, .int .i64 0]) rfl rfl (by exact mau) rfl rfl rfl rfl (fun w' hw' => ⟨.short, hE, rfl, ?_⟩)
   exact hw'.thin (.any (fun k hk => by rw [show k = bm from hk]; exact hA _ hbm) (.any (fun k hk => hA _ hk.1) (.any (fun k hk => by rw [show k = bR from hk]; exact hA _ hbR) (.any (fun k hk => by rw [show k = bU from hk]; exact hA _ hbU) (Thin.all fun i hi k hk => hA _ (hJ i hi k hk))))))
  | done en va out2 left =>
   obtain ⟨hf1, hf2, hf3, hf4, hf5, hf6, hf7⟩ := hF
   subst hf5
   have hlq : left ≤ fuel := by
    have h1 := Ends.left hE
    rw [hM0] at h1
    exact h1
   rw [hf1, hf6]
   refine W.cond rfl (fun h => absurd h (by decide)) (fun _ => ?_)
   refine zgs ?_
   refine W.regany (X := XPe) (fun x e => [(6, true, bif e 12 then .int .i64 0 else x.old 6), (5, true, bif e 11 then .int .i64 ((fuel : Int) - (left : Int)) else x.old 5), (44, true, bif e 9 then .int .i64 ((fuel : Int) - (left : Int)) else x.old 44), (43, true, bif e 8 then .int .i64 (left : Int) else x.old 43), (42, true, bif e 7 then .pointer (some ⟨bm, 0 + 3, none⟩) else x.old 42), (41, true, bif e 6 then .pointer (some ⟨bm, 0, none⟩) else x.old 41), (40, true, bif e 5 then .pointer (some ⟨bm, 0, none⟩) else x.old 40), (39, true, bif e 4 then .int .i64 (fuel : Int) else x.old 39), (38, true, bif e 3 then .agg #[.slice m.qo m.no m.co, .int .i64 m.en, .int .i64 m.va] else x.old 38), (37, true, bif e 2 then .pointer (some ⟨bm, 0 + 6, none⟩) else x.old 37), (36, true, bif e 1 then .pointer (some ⟨bm, 0, none⟩) else x.old 36), (35, true, bif e 0 then .pointer (some ⟨bm, 0, none⟩) else x.old 35), (1, true, .int .i64 (fuel : Int)), (4, true, .pointer (some ⟨bR, 0, none⟩)), (7, true, .pointer (some ⟨bm, 0, none⟩))])
    (fun x e => (blk bm 160 [.slice m.qF m.nF m.cF, .int .i64 m.main, .slice m.qs m.ns m.cs, .int .i64 (left : Int), .bool false, .bool true, .slice m.qo m.no m.co, .int .i64 m.en, .int .i64 m.va]) :: (row w.heap.size Oo m.qo m.no m.co 3 1 (ints out)) :: (bif e 10 then blk bR 58 [.slice m.qo m.no m.co, .int .i64 m.en, .int .i64 m.va] else blk bR 58 [.slice none 0 0, .int .i64 0, .int .i64 0]) :: (blk bU 55 [Value.slice q fns.length c, Value.int IntKind.i64 (main : Int)]) :: J)
    (fun old => ⟨old⟩) (by kernel_rfl) (by kernel_rfl) (fun w hw => hw.drew) (fun old => by repeat (first | exact SubO.nil | apply SubO.cons rfl | refine SubO.old rfl ?_)) (fun old w' hw' => hw') ?_ ?_
   ·intro x e i o ho hei hd hcl
    have hi : i < 13 := (List.getElem?_eq_some_iff.1 ho).1
    obtain rfl | rfl | rfl | rfl | rfl | rfl | rfl | rfl | rfl | rfl | rfl | rfl | rfl : i = 0 ∨ i = 1 ∨ i = 2 ∨ i = 3 ∨ i = 4 ∨ i = 5 ∨ i = 6 ∨ i = 7 ∨ i = 8 ∨ i = 9 ∨ i = 10 ∨ i = 11 ∨ i = 12 := by omega
    ·cases ho
     have v0 : Eng.upd e 0 0 = true := upd_eq
     simp only [hei, cond_true, cond_false]
     refine zgs ?_
     exact At.beside x (by repeat (first | exact Sub.nil | apply Sub.cons rfl | refine Sub.cons_eq rfl (by simp only [v0, cond_true, cond_false]) ?_)) (fun w' hw' => by first | exact hw' | (simp only [v0, cond_true, cond_false]; exact hw'))
    ·cases ho
     have h0 : e 0 = true := hd ⟨0, .data⟩ (by simp) rfl
     have v1 : Eng.upd e 1 1 = true := upd_eq
     have v0 : Eng.upd e 1 0 = true := upd_mono h0
     simp only [hei, h0, cond_true, cond_false]
     refine zgs ?_
     exact At.beside x (by repeat (first | exact Sub.nil | apply Sub.cons rfl | refine Sub.cons_eq rfl (by simp only [v1, v0, cond_true, cond_false]) ?_)) (fun w' hw' => by first | exact hw' | (simp only [v1, v0, cond_true, cond_false]; exact hw'))
    ·cases ho
     have h1 : e 1 = true := hd ⟨1, .data⟩ (by simp) rfl
     have v2 : Eng.upd e 2 2 = true := upd_eq
     have v1 : Eng.upd e 2 1 = true := upd_mono h1
     simp only [hei, h1, cond_true, cond_false]
     refine zgs ?_
     exact At.beside x (by repeat (first | exact Sub.nil | apply Sub.cons rfl | refine Sub.cons_eq rfl (by simp only [v2, v1, cond_true, cond_false]) ?_)) (fun w' hw' => by first | exact hw' | (simp only [v2, v1, cond_true, cond_false]; exact hw'))
    ·cases ho
     have h2 : e 2 = true := hd ⟨2, .data⟩ (by simp) rfl
     have v3 : Eng.upd e 3 3 = true := upd_eq
     have v2 : Eng.upd e 3 2 = true := upd_mono h2
     simp only [hei, h2, cond_true, cond_false]
     refine zgs ?_
     exact At.beside x (by repeat (first | exact Sub.nil | apply Sub.cons rfl | refine Sub.cons_eq rfl (by simp only [v3, v2, cond_true, cond_false]) ?_)) (fun w' hw' => by first | exact hw' | (simp only [v3, v2, cond_true, cond_false]; exact hw'))
    ·cases ho
     have v4 : Eng.upd e 4 4 = true := upd_eq
     simp only [hei, cond_true, cond_false]
     refine zgs ?_
     exact At.beside x (by repeat (first | exact Sub.nil | apply Sub.cons rfl | refine Sub.cons_eq rfl (by simp only [v4, cond_true, cond_false]) ?_)) (fun w' hw' => by first | exact hw' | (simp only [v4, cond_true, cond_false]; exact hw'))
    ·cases ho
     have v5 : Eng.upd e 5 5 = true := upd_eq
     simp only [hei, cond_true, cond_false]
     refine zgs ?_
     exact At.beside x (by repeat (first | exact Sub.nil | apply Sub.cons rfl | refine Sub.cons_eq rfl (by simp only [v5, cond_true, cond_false]) ?_)) (fun w' hw' => by first | exact hw' | (simp only [v5, cond_true, cond_false]; exact hw'))
    ·cases ho
     have h5 : e 5 = true := hd ⟨5, .data⟩ (by simp) rfl
     have v6 : Eng.upd e 6 6 = true := upd_eq
     have v5 : Eng.upd e 6 5 = true := upd_mono h5
     simp only [hei, h5, cond_true, cond_false]
     refine zgs ?_
     exact At.beside x (by repeat (first | exact Sub.nil | apply Sub.cons rfl | refine Sub.cons_eq rfl (by simp only [v6, v5, cond_true, cond_false]) ?_)) (fun w' hw' => by first | exact hw' | (simp only [v6, v5, cond_true, cond_false]; exact hw'))
    ·cases ho
     have h6 : e 6 = true := hd ⟨6, .data⟩ (by simp) rfl
     have v7 : Eng.upd e 7 7 = true := upd_eq
     have v6 : Eng.upd e 7 6 = true := upd_mono h6
     simp only [hei, h6, cond_true, cond_false]
     refine zgs ?_
     exact At.beside x (by repeat (first | exact Sub.nil | apply Sub.cons rfl | refine Sub.cons_eq rfl (by simp only [v7, v6, cond_true, cond_false]) ?_)) (fun w' hw' => by first | exact hw' | (simp only [v7, v6, cond_true, cond_false]; exact hw'))
    ·cases ho
     have h7 : e 7 = true := hd ⟨7, .data⟩ (by simp) rfl
     have v8 : Eng.upd e 8 8 = true := upd_eq
     have v7 : Eng.upd e 8 7 = true := upd_mono h7
     simp only [hei, h7, cond_true, cond_false]
     refine zgs ?_
     exact At.beside x (by repeat (first | exact Sub.nil | apply Sub.cons rfl | refine Sub.cons_eq rfl (by simp only [v8, v7, cond_true, cond_false]) ?_)) (fun w' hw' => by first | exact hw' | (simp only [v8, v7, cond_true, cond_false]; exact hw'))
    ·cases ho
     have h4 : e 4 = true := hd ⟨4, .data⟩ (by simp) rfl
     have h8 : e 8 = true := hd ⟨8, .data⟩ (by simp) rfl
     have v9 : Eng.upd e 9 9 = true := upd_eq
     have v4 : Eng.upd e 9 4 = true := upd_mono h4
     have v8 : Eng.upd e 9 8 = true := upd_mono h8
     simp only [hei, h4, h8, cond_true, cond_false]
     refine zgs ?_
     exact At.beside x (by repeat (first | exact Sub.nil | apply Sub.cons rfl | refine Sub.cons_eq rfl (by simp only [v9, v4, v8, cond_true, cond_false]) ?_)) (fun w' hw' => by first | exact hw' | (simp only [v9, v4, v8, cond_true, cond_false]; exact hw'))
    ·cases ho
     have h3 : e 3 = true := hd ⟨3, .data⟩ (by simp) rfl
     have v10 : Eng.upd e 10 10 = true := upd_eq
     have v3 : Eng.upd e 10 3 = true := upd_mono h3
     simp only [hei, h3, cond_true, cond_false]
     refine zgs ?_
     exact At.beside x (by repeat (first | exact Sub.nil | apply Sub.cons rfl | refine Sub.cons_eq rfl (by simp only [v10, v3, cond_true, cond_false]) ?_)) (fun w' hw' => by first | exact hw' | (simp only [v10, v3, cond_true, cond_false]; exact hw'))
    ·cases ho
     have h9 : e 9 = true := hd ⟨9, .data⟩ (by simp) rfl
     have v11 : Eng.upd e 11 11 = true := upd_eq
     have v9 : Eng.upd e 11 9 = true := upd_mono h9
     simp only [hei, h9, cond_true, cond_false]
     refine zgs ?_
     exact At.beside x (by repeat (first | exact Sub.nil | apply Sub.cons rfl | refine Sub.cons_eq rfl (by simp only [v11, v9, cond_true, cond_false]) ?_)) (fun w' hw' => by first | exact hw' | (simp only [v11, v9, cond_true, cond_false]; exact hw'))
    ·cases ho
     have v12 : Eng.upd e 12 12 = true := upd_eq
     simp only [hei, cond_true, cond_false]
     refine zgs ?_
     exact At.beside x (by repeat (first | exact Sub.nil | apply Sub.cons rfl | refine Sub.cons_eq rfl (by simp only [v12, cond_true, cond_false]) ?_)) (fun w' hw' => by first | exact hw' | (simp only [v12, cond_true, cond_false]; exact hw'))
   intro x e hall
   obtain ⟨old⟩ := x
   simp only [hall 0 (by decide), hall 1 (by decide), hall 2 (by decide), hall 3 (by decide), hall 4 (by decide), hall 5 (by decide), hall 6 (by decide), hall 7 (by decide), hall 8 (by decide), hall 9 (by decide), hall 10 (by decide), hall 11 (by decide), hall 12 (by decide), cond_true, cond_false]
   refine zgs ?_
   refine At.finCTT (b := bR) (cs := [.slice m.qo m.no m.co, .int .i64 m.en, .int .i64 m.va]) rfl rfl (by exact mau) rfl rfl rfl rfl (fun w' hw' => ⟨.done en va out left, hE, Oo, m.qo, m.co, by rw [← hf3, ← hf4, ← hf7], ?_⟩)
   rw [← hf7]
   exact hw'.thin (.any (fun k hk => by rw [show k = bm from hk]; exact hA _ hbm) (.keep (.any (fun k hk => by rw [show k = bR from hk]; exact hA _ hbR) (.any (fun k hk => by rw [show k = bU from hk]; exact hA _ hbU) (Thin.all fun i hi k hk => hA _ (hJ i hi k hk))))))
 | on M x top rest Os =>
  obtain ⟨hS, hM, hst, hb1, hb2⟩ := hg
  have hmc : x.m.c = [.slice x.m.qF x.m.nF x.m.cF, .int .i64 x.m.main, .slice x.m.qs x.m.ns x.m.cs, .int .i64 x.m.left, .bool x.m.sh, .bool false, .slice x.m.qo x.m.no x.m.co, .int .i64 x.m.en, .int .i64 x.m.va] := by
   unfold MS.c
   rw [hst.ov]
  simp only [PG.cls, sI, xI]
  rw [hmc]
  refine zgs ?_
  refine W.cond rfl (fun _ => ?_) (fun h => absurd h (by decide))
  refine zgs ?_
  have hlf := hst.lf
  have hst0 := hst.ok.l0
  have hst6 := hst.ok.l6
  by_cases hl : M.left = 0
  ·refine OL.callE (α := Unit) (fun _ => .tuple #[]) (fun _ => True) (fun _ => Cls (blk top.bf 195 (frC top.fn top.blk top.at_ top.to_ top.bp) :: mapI top.bp (mc top.mp) :: row w.heap.size Os x.m.qs x.m.ns x.m.cs 192 1 (ptrs (ptL top rest)) :: blk bm 160 [.slice x.m.qF x.m.nF x.m.cF, .int .i64 x.m.main, .slice x.m.qs x.m.ns x.m.cs, .int .i64 (x.m.left), .bool true, .bool true, .slice x.m.qo x.m.no x.m.co, .int .i64 x.m.en, .int .i64 x.m.va] :: row w.heap.size x.Oo x.m.qo x.m.no x.m.co 3 1 (ints x.out) :: pool (pvR pF) w.heap.size x.Op x.L :: bag w.heap.size (arI x.A) :: bag w.heap.size (frI rest) :: [blk bR 58 [Value.slice none 0 0, Value.int IntKind.i64 0, Value.int IntKind.i64 0], blk bU 55 [Value.slice q fns.length c, Value.int IntKind.i64 (main : Int)]]) [w]) rfl rfl (by exact Args.au) (fun w2 hw2 => (pay_no bm x.m 1 _ [w] w2 (by rw [hlf, hl]; decide) (by rw [hmc]; exact hw2.perm (List.perm_middle (l₁ := [_, _, _]) (l₂ := _)))).mono fun e w3 h => ⟨(), h.1, trivial, h.2.perm (List.perm_middle (l₁ := [_, _, _]) (l₂ := _)).symm⟩) ?_
   intro _ _
   refine zgs ?_
   refine W.cond rfl (fun _ => ?_) (fun h => absurd h (by decide))
   refine zgs ?_
   refine At.finCTT (b := bR) (cs := [.slice none 0 0, .int .i64 0, .int .i64 0]) rfl rfl (by exact mau) rfl rfl rfl rfl (fun w' hw' => ⟨.short, ⟨M, hS, ?_⟩, rfl, ?_⟩)
   ·obtain ⟨st, A, out, left⟩ := M
    simp only at hl
    subst hl
    cases st <;> rfl
   ·exact hw'.thin (.any (fun k hk => by rw [show k = top.bf from hk]; exact hA _ hb1) (.any (fun k hk => by rw [show k = top.bp from hk]; exact hA _ hb2) (.any (fun k hk => hA _ hk.1) (.any (fun k hk => by rw [show k = bm from hk]; exact hA _ hbm) (.any (fun k hk => hA _ hk.1) (.any (fun k hk => hA _ hk.1) (.any (fun k hk => hA _ hk.1) (.any (fun k hk => hA _ hk.1) (.any (fun k hk => by rw [show k = bR from hk]; exact hA _ hbR) (.any (fun k hk => by rw [show k = bU from hk]; exact hA _ hbU) Thin.nil))))))))))
  ·refine OL.callE (α := Unit) (fun _ => .tuple #[]) (fun _ => True) (fun _ => Cls (blk top.bf 195 (frC top.fn top.blk top.at_ top.to_ top.bp) :: mapI top.bp (mc top.mp) :: row w.heap.size Os x.m.qs x.m.ns x.m.cs 192 1 (ptrs (ptL top rest)) :: blk bm 160 [.slice x.m.qF x.m.nF x.m.cF, .int .i64 x.m.main, .slice x.m.qs x.m.ns x.m.cs, .int .i64 (x.m.left - 1), .bool false, .bool false, .slice x.m.qo x.m.no x.m.co, .int .i64 x.m.en, .int .i64 x.m.va] :: row w.heap.size x.Oo x.m.qo x.m.no x.m.co 3 1 (ints x.out) :: pool (pvR pF) w.heap.size x.Op x.L :: bag w.heap.size (arI x.A) :: bag w.heap.size (frI rest) :: [blk bR 58 [Value.slice none 0 0, Value.int IntKind.i64 0, Value.int IntKind.i64 0], blk bU 55 [Value.slice q fns.length c, Value.int IntKind.i64 (main : Int)]]) [w]) rfl rfl (by exact Args.au) (fun w2 hw2 => (pay_ok bm x.m 1 _ [w] w2 (by decide) (by rw [hlf]; omega) (by omega) (by rw [hmc]; exact hw2.perm (List.perm_middle (l₁ := [_, _, _]) (l₂ := _)))).mono fun e w3 h => ⟨(), h.1, trivial, by
    have h3 := h.2.perm (List.perm_middle (l₁ := [_, _, _]) (l₂ := _)).symm
    unfold MS.c at h3
    rw [hst.ov, hst.ok.sh] at h3
    exact h3⟩) ?_
   intro _ _
   refine zgs ?_
   refine W.cond rfl (fun h => absurd h (by decide)) (fun _ => ?_)
   refine zgs ?_
   have hle1 : ((M.left - 1 : Nat) : Int) = x.m.left - 1 := by rw [hlf]; omega
   refine OL.callE (α := PG) (fun _ => .tuple #[]) (fun g => PG.inv (fns.map Prod.fst) M0 q fns.length w.heap.size g ∧ g.mu < M.left + 1) (fun g => Cls (g.cls w.heap.size bm [blk bR 58 [Value.slice none 0 0, Value.int IntKind.i64 0, Value.int IntKind.i64 0], blk bU 55 [Value.slice q fns.length c, Value.int IntKind.i64 (main : Int)]]) [w]) rfl rfl (by exact Args.au) (fun w2 hw2 => (step_calls fns q hU M hM hl { x with m := { x.m with left := x.m.left - 1 } } top rest Os ⟨hst.qf, hst.nf, hst.st, ⟨hst.ok.no, hst.ok.ol, hst.ok.al, hst.ok.ar, hst.ok.ai, hst.ok.a1, hst.ok.sh, by show 0 ≤ x.m.left - 1; omega, by show x.m.left - 1 ≤ _; omega⟩, hst.out, hle1.symm, hst.ns, by show (x.m.ns : Int) + _ ≤ _; have := hst.big; omega, hst.ov⟩ hst.big bm _ [w] w (.head _) hA hu hb1 hb2 hbm hno w2 (by
    have : ({ x.m with left := x.m.left - 1 } : MS).c = [.slice x.m.qF x.m.nF x.m.cF, .int .i64 x.m.main, .slice x.m.qs x.m.ns x.m.cs, .int .i64 (x.m.left - 1), .bool false, .bool false, .slice x.m.qo x.m.no x.m.co, .int .i64 x.m.en, .int .i64 x.m.va] := by
     unfold MS.c
     rw [hst.ov, hst.ok.sh]
    unfold sI xI
    simp only
    rw [this]
    exact hw2)).mono fun e w3 h => ?_) ?_
   ·obtain ⟨h1, h2⟩ := h
    cases hr : stepP (fns.map Prod.fst) M with
    | next M' =>
     rw [hr] at h2
     obtain ⟨x2, top2, rest2, Os2, h3, h4, h5⟩ := h2
     exact ⟨.on M' x2 top2 rest2 Os2, h1, ⟨⟨hS.trans (.one hr), stepP_ok hU hM hr, h3, h4.1, h4.2⟩, Nat.succ_lt_succ (stepP_left hr)⟩, h5⟩
    | fin f =>
     rw [hr] at h2
     obtain ⟨m2, out2, Oo2, J2, h3, h4, h5⟩ := h2
     exact ⟨.off f m2 out2 Oo2 J2, h1, ⟨⟨⟨M, hS, hr⟩, h3, h4⟩, Nat.succ_pos _⟩, h5.perm (.cons _ (.cons _ List.perm_append_comm))⟩
   rintro g2 ⟨hg2, hmu⟩
   refine zgs ?_
   exact At.again g2 hg2 hmu (by exact Sub.au) (fun w' hw' => hw')
end Go.Proofs.Ytehelljmaiophaa.ss

/- The checks of a unit: plain form and the program's walk. Conditions: none. -/
namespace Go.Ss
open Go.Eng Go.RowKit
def callE (fs : List Fn) (i : In) : Int :=
 if i.op ≠ 13 ∧ i.op ≠ 9 then 0
 else if (fs.length : Int) ≤ i.n then 4
 else if (i.op = 13 ∧ (parB fs i.n.toNat 0).length ≠ i.args.length) ∨ (i.op = 9 ∧ (parB fs i.n.toNat 0).length = 0) then 3
 else 0
noncomputable def unitE (fs : List Fn) (main : Int) : Int :=
 if fs.length = 0 then 3
 else if 256 < fs.length then 2
 else if ¬ (0 ≤ main ∧ main < (fs.length : Int)) then 4
 else if firstE funcE fs ≠ 0 then firstE funcE fs
 else if (parB fs main.toNat 0).length ≠ 0 then 3
 else firstE (fun f => firstE (fun b => firstE (callE fs) b.ins) f.blocks) fs
theorem callE_zero {fs : List Fn} {i : In} (h : callE fs i = 0) (hi : i.op = 13 ∨ i.op = 9) : i.n < (fs.length : Int) ∧ (i.op = 13 → (parB fs i.n.toNat 0).length = i.args.length) ∧ (i.op = 9 → (parB fs i.n.toNat 0).length ≠ 0) := by
 unfold callE at h
 rw [if_neg (by omega)] at h
 split at h
 ·cases h
 ·split at h
  ·cases h
  ·rename_i h1 h2
   refine ⟨by omega, fun e => Decidable.byContradiction fun hc => h2 (.inl ⟨e, hc⟩), fun e hc => h2 (.inr ⟨e, hc⟩)⟩
theorem firstE_nx {α : Type} {f : α → Int} {l : List α} {k : Nat} {x : α} (h : l[k]? = some x) (hz : firstE f l = firstE f (l.drop k)) : (f x = 0 → firstE f l = firstE f (l.drop (k + 1))) ∧ (f x ≠ 0 → firstE f l = f x) := by
 obtain ⟨h1, h2⟩ := List.getElem?_eq_some_iff.1 h
 rw [List.drop_eq_getElem_cons h1, firstE, h2] at hz
 constructor
 ·intro h0
  rw [hz, if_pos h0]
 ·intro h0
  rw [hz, if_neg h0]
theorem unitE_zero {fs : List Fn} {main : Int} (h : unitE fs main = 0) : UOk fs ∧ 0 ≤ main ∧ main < (fs.length : Int) ∧ fs.length ≤ 256 ∧ parB fs main.toNat 0 = [] := by
 unfold unitE at h
 split at h
 ·cases h
 split at h
 ·cases h
 split at h
 ·cases h
 split at h
 ·contradiction
 split at h
 ·cases h
 rename_i h1 h2 h3 h4 h5
 have h4' : firstE funcE fs = 0 := Decidable.not_not.1 h4
 refine ⟨⟨fun f hf => firstE_zero.1 h4' f hf, fun f hf b hb i hi hio => callE_zero (firstE_zero.1 (firstE_zero.1 (firstE_zero.1 h f hf) b hb) i hi) hio⟩, by omega, by omega, by omega, ?_⟩
 exact List.length_eq_zero_iff.1 (Decidable.not_not.1 h5)
end Go.Ss
namespace Go.Proofs.Ytehelljmaiophaa.ss
set_option maxRecDepth 100000
open Go.Eng Go.RowKit Go.Ss
theorem Calls_calls (fns : List (Go.Ss.Fn × FnY)) (q : Option Addr) (c : Nat) (main : Int) (i : Go.Ss.In) (iy : Sc) (w : World) (hu : Arr fnR w (low w) fns q) (hl6 : fns.length ≤ 256) (hb : ∀ (k : Nat) p, fns[k]? = some p → 0 < p.1.blocks.length) (hn : i.op = 13 ∨ i.op = 9 → 0 ≤ i.n) :
  Calls Try.prog 83 [.agg #[.slice q fns.length c, .int .i64 main], .agg (inC i iy).toArray].toArray w fun e w' => e = .returned (.int .i64 (callE (fns.map Prod.fst) i)) ∧ Ext w w' := by
 refine enter Try.func83 rfl Try.ntmps83 rfl (Cls.start w) (zen ?_)
 unfold inC
 apply W.sr
 apply OL.box; rfl; rfl; exact CellsL.agg; (intro bk hbk; simp only [AllLe, and_true] at hbk)
 apply OL.box; rfl; rfl; exact CellsL.agg; (intro bk hbk; simp only [AllLe, and_true] at hbk)
 refine zgs ?_
 by_cases hop : i.op = 13 ∨ i.op = 9
 ·refine W.cond rfl (fun h => by simp at h; omega) (fun _ => ?_)
  have hn0 := hn hop
  obtain ⟨k, hk⟩ : ∃ k : Nat, i.n = (k : Int) := ⟨i.n.toNat, by omega⟩
  have hE : callE (fns.map Prod.fst) i = if (fns.length : Int) ≤ (k : Int) then 4 else if (i.op = 13 ∧ (parB (fns.map Prod.fst) k 0).length ≠ i.args.length) ∨ (i.op = 9 ∧ (parB (fns.map Prod.fst) k 0).length = 0) then 3 else 0 := by
   unfold callE
   rw [if_neg (by omega), List.length_map, hk, Int.toNat_natCast]
  rw [hk]
  refine zgs ?_
  refine W.cnd ?_ ?_ <;> intro h1 <;> try exact zwx h1
  ·refine zgs ?_
   (refine zfn ?_; intro w' hw')
   rw [hE, if_pos (by omega)]
   exact ⟨rfl, by (exact hw'.fr)⟩
  rw [if_neg (by omega)] at hE
  have hkl : k < fns.length := by omega
  obtain ⟨a, x, hqa, hab, hx, hcF, hok⟩ := hu.get hkl
  have hab : a.block < w.heap.size := hab
  have hcF : CellsAt w (a.add (k * 2)) [.int .i64 x.1.name, .slice x.2.q x.1.blocks.length x.2.c] := hcF
  have hbl := hb k x hx
  obtain ⟨es, hes, he⟩ := hok.b
  have hel : es.length = x.1.blocks.length := by rw [← hes, List.length_map]
  obtain ⟨a2, y, hq2, hab2, hy, hcB, hokB⟩ := he.get (show 0 < es.length by omega)
  have hab2 : a2.block < w.heap.size := hab2
  have hcB : CellsAt w (a2.add (0 * 7)) [.slice y.2.p.1 y.1.params.length y.2.p.2, .slice y.2.i.1 y.1.ins.length y.2.i.2, .int .i64 y.1.term.kind, .int .i64 y.1.term.arg, .int .i64 y.1.term.n, .slice y.2.t.c.1 y.1.term.cases.length y.2.t.c.2, .slice y.2.t.t.1 y.1.term.to_.length y.2.t.t.2] := hcB
  have hpar : parB (fns.map Prod.fst) k 0 = y.1.params := by
   unfold parB
   rw [fnB_map hx, List.getD_eq_getElem?_getD, ← hes, List.getElem?_map, hy]
   rfl
  rw [hpar] at hE
  rw [hq2] at hcF
  rw [hqa]
  refine zgs ?_
  refine W.cond rfl (fun h => ?_) (fun h => ?_)
  ·have hbad : (i.op = 13 ∧ y.1.params.length ≠ i.args.length) ∨ (i.op = 9 ∧ y.1.params.length = 0) := by
    rcases hop with e | e
    ·rw [e] at h ⊢; simp at h; omega
    ·rw [e] at h ⊢; simp at h; simp [h]
   refine zgs ?_
   (refine zfn ?_; intro w' hw')
   rw [hE, if_pos hbad]
   exact ⟨rfl, by (exact hw'.fr)⟩
  ·have hbad : ¬ ((i.op = 13 ∧ y.1.params.length ≠ i.args.length) ∨ (i.op = 9 ∧ y.1.params.length = 0)) := by
    rcases hop with e | e
    ·rw [e] at h ⊢; simp at h; omega
    ·rw [e] at h ⊢; simp at h; simp [h]
   refine zgs ?_
   (refine zfn ?_; intro w' hw')
   rw [hE, if_neg hbad]
   exact ⟨rfl, by (exact hw'.fr)⟩
 refine W.cond rfl (fun _ => ?_) (fun h => by simp at h; omega)
 have hE : callE (fns.map Prod.fst) i = 0 := by
  unfold callE
  rw [if_pos (by omega)]
 refine zgs ?_
 (refine zfn ?_; intro w' hw')
 rw [hE]
 exact ⟨rfl, by (exact hw'.fr)⟩
theorem Check_calls (fns : List (Go.Ss.Fn × FnY)) (q : Option Addr) (c : Nat) (main : Int) (w : World) (hu : Arr fnR w (low w) fns q) (hl6 : fns.length ≤ 140737488355328) (hm : I64 main) :
  Calls Try.prog 33 [.agg #[.slice q fns.length c, .int .i64 main]].toArray w fun e w' => e = .returned (.int .i64 (unitE (fns.map Prod.fst) main)) ∧ Ext w w' := by
 have hUE : unitE (fns.map Prod.fst) main = if fns.length = 0 then 3 else if 256 < fns.length then 2 else if ¬ (0 ≤ main ∧ main < (fns.length : Int)) then 4 else if firstE funcE (fns.map Prod.fst) ≠ 0 then firstE funcE (fns.map Prod.fst) else if (parB (fns.map Prod.fst) main.toNat 0).length ≠ 0 then 3 else firstE (fun f => firstE (fun b => firstE (callE (fns.map Prod.fst)) b.ins) f.blocks) (fns.map Prod.fst) := by
  unfold unitE
  rw [List.length_map]
 refine enter Try.func33 rfl Try.ntmps33 rfl (Cls.start w) (zen ?_)
 apply W.sr
 apply OL.box; rfl; rfl; exact CellsL.agg; (intro bk hbk; simp only [AllLe, and_true] at hbk)
 refine zgs ?_
 refine W.cnd ?_ ?_ <;> intro h1 <;> try exact zwx h1
 ·refine zgs ?_
  (refine zfn ?_; intro w' hw')
  rw [hUE, if_pos (by omega)]
  exact ⟨rfl, by (exact hw'.fr)⟩
 rw [if_neg (by omega)] at hUE
 refine zgs ?_
 refine W.cnd ?_ ?_ <;> intro h2 <;> try exact zwx h2
 ·refine zgs ?_
  (refine zfn ?_; intro w' hw')
  rw [hUE, if_pos (by omega)]
  exact ⟨rfl, by (exact hw'.fr)⟩
 rw [if_neg (by omega)] at hUE
 refine zgs ?_
 (((first | apply OL.op | apply QL.op); exact Guard.au; rfl; rfl); (exact Pev.call (v := .bool (decide (0 ≤ main) && decide (main ≤ (fns.length : Int) - 1))) rfl (by exact Args.au) (fun _ w2 hw2 => (within_calls main 0 _ w2).mono (fun e w3 h => ⟨h.1, hw2.ext h.2⟩))))
 refine zgs ?_
 refine W.cond rfl (fun h3 => ?_) (fun h3 => ?_)
 ·refine zgs ?_
  (refine zfn ?_; intro w' hw')
  rw [hUE, if_pos (by simp at h3; omega)]
  exact ⟨rfl, by (exact hw'.fr)⟩
 have h3' : 0 ≤ main ∧ main < (fns.length : Int) := by simp at h3; omega
 rw [if_neg (by omega)] at hUE
 obtain ⟨mn, rfl⟩ : ∃ mn : Nat, main = (mn : Int) := ⟨main.toNat, by omega⟩
 have hml : mn < fns.length := by omega
 rw [Int.toNat_natCast] at hUE
 obtain ⟨am, xm, hqm, ham, hxm, hcM, hokM⟩ := hu.get hml
 have ham : am.block < w.heap.size := ham
 have hcM : CellsAt w (am.add (mn * 2)) [.int .i64 xm.1.name, .slice xm.2.q xm.1.blocks.length xm.2.c] := hcM
 subst hqm
 have hF : ∀ (x : Go.Ss.Fn × FnY) (H : List Eng.Item) (S : List World) (w2 : World), FnOk w (low w) x.1 x.2 → Cls H S w2 → w ∈ S → (∀ k, k < w.heap.size → NotOwned H k) → FnOk w2 (low w2) x.1 x.2 := fun x H S w2 h hw2 hs hno => fnR.mono (hw2.up hs) (fnR.stab (hw2.same hs hno) h)
 refine zgs ?_
 revert hbk
 revert bk
 intro bU hbU
 have hno : ∀ k, k < w.heap.size → NotOwned [blk bU 55 [Value.slice (some am) fns.length c, Value.int IntKind.i64 (mn : Int)]] k := fun k hk => NotOwned.blk (by have : w.heap.size ≤ bU := hbU; omega) NotOwned.nil
 refine W.loop (G := Nat) (fun k => k ≤ fns.length ∧ firstE funcE (fns.map Prod.fst) = firstE funcE ((fns.map Prod.fst).drop k)) (fun k => fns.length - k)
  (fun k => [(1, true, .pointer (some ⟨bU, 0, none⟩)), (33, true, .slice (some am) fns.length c), (34, true, .int .i64 (fns.length : Int)), (35, true, .int .i64 (k : Int))])
  (fun _ => Cls [blk bU 55 [Value.slice (some am) fns.length c, Value.int IntKind.i64 (mn : Int)]] [w]) 0 ⟨by omega, rfl⟩ (by exact Sub.au) (fun w' hw' => hw') ?_
 rintro k ⟨hk, hkE⟩
 refine zgs ?_
 refine W.cnd ?_ ?_ <;> intro hltk <;> try exact zwx hltk
 ·have hkl : k < fns.length := by omega
  obtain ⟨a, x, hqa, hab, hx, hcF, hok⟩ := hu.get hkl
  obtain rfl := Option.some.inj hqa
  have hab : am.block < w.heap.size := hab
  have hcF : CellsAt w (am.add (k * 2)) [.int .i64 x.1.name, .slice x.2.q x.1.blocks.length x.2.c] := hcF
  have hxm2 : (fns.map Prod.fst)[k]? = some x.1 := by rw [List.getElem?_map, hx]; rfl
  have hstp := firstE_nx hxm2 hkE
  refine zgs ?_
  apply OL.alloc; rfl; rfl; exact CellsL.agg; (intro bk hbk; simp only [AllLe, and_true] at hbk)
  refine zgs ?_
  (((first | apply OL.op | apply QL.op); exact Guard.au; rfl; rfl); (exact Pev.call (v := .int .i64 (funcE x.1)) rfl (by exact Args.au) (fun _ w2 hw2 => (CheckFunc_calls x.1 x.2 w2 (hF x _ _ w2 hok hw2 (by exact mau) (fun k hk => by exact NotOwned.au))).mono (fun e w3 h => ⟨h.1, hw2.ext h.2⟩))))
  refine zgs ?_
  refine W.cnd ?_ ?_ <;> intro hne <;> try exact zwx hne
  ·refine zgs ?_
   (refine zfn ?_; intro w' hw')
   rw [hUE, if_pos (by rw [hstp.2 (by omega)]; omega), hstp.2 (by omega)]
   exact ⟨rfl, by (exact hw'.fr)⟩
  refine zgs ?_
  exact At.again (k + 1) ⟨by omega, hstp.1 (by omega)⟩ (by omega) (by exact Sub.au) (fun w' hw' => hw'.thin (by exact Thin.au))
 obtain rfl : k = fns.length := by omega
 have hE0 : firstE funcE (fns.map Prod.fst) = 0 := by
  rw [hkE, List.drop_of_length_le (by simp)]
  rfl
 rw [if_neg (by rw [hE0]; simp)] at hUE
 have hbl : ∀ (k : Nat) p, fns[k]? = some p → 0 < p.1.blocks.length := fun k p hp => (func_zero (firstE_zero.1 hE0 p.1 (List.mem_map.2 ⟨p, List.mem_of_getElem? hp, rfl⟩))).1
 have hfz : ∀ (k : Nat) p, fns[k]? = some p → shapeE p.1.blocks = 0 := fun k p hp => (func_zero (firstE_zero.1 hE0 p.1 (List.mem_map.2 ⟨p, List.mem_of_getElem? hp, rfl⟩))).2.2
 have hbM := hbl mn xm hxm
 obtain ⟨esM, hesM, heM⟩ := hokM.b
 have helM : esM.length = xm.1.blocks.length := by rw [← hesM, List.length_map]
 obtain ⟨aB, y, hqB, habB, hy, hcB, hokB⟩ := heM.get (show 0 < esM.length by omega)
 have habB : aB.block < w.heap.size := habB
 have hcB : CellsAt w (aB.add (0 * 7)) [.slice y.2.p.1 y.1.params.length y.2.p.2, .slice y.2.i.1 y.1.ins.length y.2.i.2, .int .i64 y.1.term.kind, .int .i64 y.1.term.arg, .int .i64 y.1.term.n, .slice y.2.t.c.1 y.1.term.cases.length y.2.t.c.2, .slice y.2.t.t.1 y.1.term.to_.length y.2.t.t.2] := hcB
 have hpar : parB (fns.map Prod.fst) mn 0 = y.1.params := by
  unfold parB
  rw [fnB_map hxm, List.getD_eq_getElem?_getD, ← hesM, List.getElem?_map, hy]
  rfl
 rw [hpar] at hUE
 rw [hqB] at hcM
 refine zgs ?_
 refine W.cnd ?_ ?_ <;> intro h5 <;> try exact zwx h5
 ·refine zgs ?_
  (refine zfn ?_; intro w' hw')
  rw [hUE, if_pos (by omega)]
  exact ⟨rfl, by (exact hw'.fr)⟩
 rw [if_neg (by omega)] at hUE
 rw [hUE]
 clear hUE
 refine zgs ?_
 refine W.loop (G := Nat) (fun k => k ≤ fns.length ∧ firstE (fun f : Go.Ss.Fn => firstE (fun b : Bk => firstE (callE (fns.map Prod.fst)) b.ins) f.blocks) (fns.map Prod.fst) = firstE (fun f : Go.Ss.Fn => firstE (fun b : Bk => firstE (callE (fns.map Prod.fst)) b.ins) f.blocks) ((fns.map Prod.fst).drop k)) (fun k => fns.length - k)
  (fun k => [(1, true, .pointer (some ⟨bU, 0, none⟩)), (58, true, .slice (some am) fns.length c), (59, true, .int .i64 (fns.length : Int)), (60, true, .int .i64 (k : Int))])
  (fun _ => Cls [blk bU 55 [Value.slice (some am) fns.length c, Value.int IntKind.i64 (mn : Int)]] [w]) 0 ⟨by omega, rfl⟩ (by exact Sub.au) (fun w' hw' => hw') ?_
 rintro k ⟨hk, hkE⟩
 refine zgs ?_
 refine W.cnd ?_ ?_ <;> intro hltk2 <;> try exact zwx hltk2
 ·have hkl : k < fns.length := by omega
  obtain ⟨a, x, hqa, hab, hx, hcF, hok⟩ := hu.get hkl
  obtain rfl := Option.some.inj hqa
  have hab : am.block < w.heap.size := hab
  have hcF : CellsAt w (am.add (k * 2)) [.int .i64 x.1.name, .slice x.2.q x.1.blocks.length x.2.c] := hcF
  have hxm2 : (fns.map Prod.fst)[k]? = some x.1 := by rw [List.getElem?_map, hx]; rfl
  have hstp := firstE_nx hxm2 hkE
  have hshx := hfz k x hx
  have hblx := hok.bl
  obtain ⟨es, hes, he⟩ := hok.b
  have hel : x.1.blocks.length = es.length := by rw [← hes, List.length_map]
  refine zgs ?_
  apply OL.alloc; rfl; rfl; exact CellsL.agg; (intro bk hbk; simp only [AllLe, and_true] at hbk)
  refine zgs ?_
  revert hbk
  revert bk
  intro bF hbF
  refine W.loop (G := Nat) (fun j => j ≤ es.length ∧ firstE (fun b : Bk => firstE (callE (fns.map Prod.fst)) b.ins) x.1.blocks = firstE (fun b : Bk => firstE (callE (fns.map Prod.fst)) b.ins) (x.1.blocks.drop j)) (fun j => es.length - j)
   (fun j => [(1, true, .pointer (some ⟨bU, 0, none⟩)), (58, true, .slice (some am) fns.length c), (59, true, .int .i64 (fns.length : Int)), (60, true, .int .i64 (k : Int)), (65, true, .slice x.2.q x.1.blocks.length x.2.c), (66, true, .int .i64 (x.1.blocks.length : Int)), (67, true, .int .i64 (j : Int))])
   (fun _ => Cls [blk bF 24 [.int .i64 x.1.name, .slice x.2.q x.1.blocks.length x.2.c], blk bU 55 [Value.slice (some am) fns.length c, Value.int IntKind.i64 (mn : Int)]] [w]) 0 ⟨by omega, rfl⟩ (by exact Sub.au) (fun w' hw' => hw') ?_
  rintro j ⟨hj, hjE⟩
  refine zgs ?_
  refine W.cnd ?_ ?_ <;> intro hltj <;> try exact zwx hltj
  ·have hjl : j < es.length := by omega
   obtain ⟨a2, p, hqa2, hab2, hp, hcell2, hokB2⟩ := he.get hjl
   have hab2 : a2.block < w.heap.size := hab2
   have hcell2 : CellsAt w (a2.add (j * 7)) [.slice p.2.p.1 p.1.params.length p.2.p.2, .slice p.2.i.1 p.1.ins.length p.2.i.2, .int .i64 p.1.term.kind, .int .i64 p.1.term.arg, .int .i64 p.1.term.n, .slice p.2.t.c.1 p.1.term.cases.length p.2.t.c.2, .slice p.2.t.t.1 p.1.term.to_.length p.2.t.t.2] := hcell2
   have hbsk : x.1.blocks[j]? = some p.1 := by rw [← hes, List.getElem?_map, hp]; rfl
   have hstp2 := firstE_nx hbsk hjE
   have hil := hokB2.il
   obtain ⟨pi, hpi, hiarr⟩ := hokB2.i
   have hpil : p.1.ins.length = pi.length := by rw [← hpi, List.length_map]
   rw [hqa2]
   refine zgs ?_
   apply OL.alloc; rfl; rfl; exact CellsL.agg; (intro bk hbk; simp only [AllLe, and_true] at hbk)
   refine zgs ?_
   revert hbk
   revert bk
   intro b9 hb9
   refine W.loop (G := Nat) (fun n => n ≤ pi.length ∧ firstE (callE (fns.map Prod.fst)) p.1.ins = firstE (callE (fns.map Prod.fst)) (p.1.ins.drop n)) (fun n => pi.length - n)
    (fun n => [(1, true, .pointer (some ⟨bU, 0, none⟩)), (58, true, .slice (some am) fns.length c), (59, true, .int .i64 (fns.length : Int)), (60, true, .int .i64 (k : Int)), (65, true, .slice (some a2) x.1.blocks.length x.2.c), (66, true, .int .i64 (x.1.blocks.length : Int)), (67, true, .int .i64 (j : Int)), (72, true, .slice p.2.i.1 p.1.ins.length p.2.i.2), (73, true, .int .i64 (p.1.ins.length : Int)), (74, true, .int .i64 (n : Int))])
    (fun _ => Cls [blk b9 41 [.slice p.2.p.1 p.1.params.length p.2.p.2, .slice p.2.i.1 p.1.ins.length p.2.i.2, .int .i64 p.1.term.kind, .int .i64 p.1.term.arg, .int .i64 p.1.term.n, .slice p.2.t.c.1 p.1.term.cases.length p.2.t.c.2, .slice p.2.t.t.1 p.1.term.to_.length p.2.t.t.2], blk bF 24 [.int .i64 x.1.name, .slice (some a2) x.1.blocks.length x.2.c], blk bU 55 [Value.slice (some am) fns.length c, Value.int IntKind.i64 (mn : Int)]] [w]) 0 ⟨by omega, rfl⟩ (by exact Sub.au) (fun w' hw' => hw') ?_
   rintro n ⟨hn, hnE⟩
   refine zgs ?_
   refine W.cnd ?_ ?_ <;> intro hltn <;> try exact zwx hltn
   ·have hnl : n < pi.length := by omega
    obtain ⟨a3, iu, hq3, hab3, hiu, hcI, hokI⟩ := hiarr.get hnl
    have hab3 : a3.block < w.heap.size := hab3
    have hcI : CellsAt w (a3.add (n * 4)) (inC iu.1 iu.2) := hcI
    have hin : p.1.ins[n]? = some iu.1 := by rw [← hpi, List.getElem?_map, hiu]; rfl
    have hstp3 := firstE_nx hin hnE
    have hform := ins_form hshx hbsk hin
    have hnn : iu.1.op = 13 ∨ iu.1.op = 9 → 0 ≤ iu.1.n := fun e => by
     obtain ⟨_, _, _, _, _, _, h6⟩ := form_zero hform
     unfold numB at h6
     rw [if_neg (by omega), if_pos (by omega)] at h6
     simp only [Bool.and_eq_true, decide_eq_true_eq] at h6
     omega
    rw [hq3]
    unfold inC at hcI
    refine zgs ?_
    apply OL.alloc; rfl; rfl; exact CellsL.agg; (intro bk hbk; simp only [AllLe, and_true] at hbk)
    refine zgs ?_
    (((first | apply OL.op | apply QL.op); exact Guard.au; rfl; rfl); (exact Pev.call (v := .int .i64 (callE (fns.map Prod.fst) iu.1)) rfl (by exact Args.au) (fun _ w2 hw2 => (Calls_calls fns (some am) c mn iu.1 iu.2 w2 (hu.at hw2 (by exact mau) (fun k hk => by exact NotOwned.au)) (by omega) hbl hnn).mono (fun e w3 h => ⟨h.1, hw2.ext h.2⟩))))
    refine zgs ?_
    refine W.cnd ?_ ?_ <;> intro hne <;> try exact zwx hne
    ·refine zgs ?_
     (refine zfn ?_; intro w' hw')
     rw [hstp.2 (by rw [hstp2.2 (by rw [hstp3.2 hne]; exact hne), hstp3.2 hne]; exact hne)]
     rw [hstp2.2 (by rw [hstp3.2 hne]; exact hne), hstp3.2 hne]
     exact ⟨rfl, by (exact hw'.fr)⟩
    refine zgs ?_
    exact At.again (n + 1) ⟨by omega, hstp3.1 (by omega)⟩ (by omega) (by exact Sub.au) (fun w' hw' => hw'.thin (by exact Thin.au))
   obtain rfl : n = pi.length := by omega
   have hz3 : firstE (callE (fns.map Prod.fst)) p.1.ins = 0 := by
    rw [hnE, List.drop_of_length_le (by omega)]
    rfl
   refine zgs ?_
   exact At.again (j + 1) ⟨by omega, hstp2.1 hz3⟩ (by omega) (by exact Sub.au) (fun w' hw' => hw'.thin (by exact Thin.au))
  obtain rfl : j = es.length := by omega
  have hz2 : firstE (fun b : Bk => firstE (callE (fns.map Prod.fst)) b.ins) x.1.blocks = 0 := by
   rw [hjE, List.drop_of_length_le (by omega)]
   rfl
  refine zgs ?_
  exact At.again (k + 1) ⟨by omega, hstp.1 hz2⟩ (by omega) (by exact Sub.au) (fun w' hw' => hw'.thin (by exact Thin.au))
 obtain rfl : k = fns.length := by omega
 have hz1 : firstE (fun f : Go.Ss.Fn => firstE (fun b : Bk => firstE (callE (fns.map Prod.fst)) b.ins) f.blocks) (fns.map Prod.fst) = 0 := by
  rw [hkE, List.drop_of_length_le (by simp)]
  rfl
 rw [hz1]
 refine zgs ?_
 (refine zfn ?_; intro w' hw')
 exact ⟨rfl, by (exact hw'.fr)⟩
end Go.Proofs.Ytehelljmaiophaa.ss

/- The walk of the reference's check of a unit. Conditions: none. -/
namespace Go.Proofs.Ytehelljmaiophaa.ss
set_option maxRecDepth 100000
open Go.Eng Go.RowKit Go.Ss
theorem UnitErr_calls (fns : List (Go.Ss.Fn × FnY)) (q : Option Addr) (c : Nat) (main : Int) (w : World) (hu : Arr fnR w (low w) fns q) (hl6 : fns.length ≤ 140737488355328) (hm : I64 main) :
  Calls Try.prog 25 [.agg #[.slice q fns.length c, .int .i64 main]].toArray w fun e w' => e = .returned (.int .i64 (unitE (fns.map Prod.fst) main)) ∧ Ext w w' := by
 have hUE : unitE (fns.map Prod.fst) main = if fns.length = 0 then 3 else if 256 < fns.length then 2 else if ¬ (0 ≤ main ∧ main < (fns.length : Int)) then 4 else if firstE funcE (fns.map Prod.fst) ≠ 0 then firstE funcE (fns.map Prod.fst) else if (parB (fns.map Prod.fst) main.toNat 0).length ≠ 0 then 3 else firstE (fun f => firstE (fun b => firstE (callE (fns.map Prod.fst)) b.ins) f.blocks) (fns.map Prod.fst) := by
  unfold unitE
  rw [List.length_map]
 refine enter Try.func25 rfl Try.ntmps25 rfl (Cls.start w) (zen ?_)
 apply W.sr
 apply OL.box; rfl; rfl; exact CellsL.agg; (intro bk hbk; simp only [AllLe, and_true] at hbk)
 refine zgs ?_
 refine W.cnd ?_ ?_ <;> intro h1 <;> try exact zwx h1
 ·refine zgs ?_
  (refine zfn ?_; intro w' hw')
  rw [hUE, if_pos (by omega)]
  exact ⟨rfl, by (exact hw'.fr)⟩
 rw [if_neg (by omega)] at hUE
 refine zgs ?_
 refine W.cnd ?_ ?_ <;> intro h2 <;> try exact zwx h2
 ·refine zgs ?_
  (refine zfn ?_; intro w' hw')
  rw [hUE, if_pos (by omega)]
  exact ⟨rfl, by (exact hw'.fr)⟩
 rw [if_neg (by omega)] at hUE
 refine zgs ?_
 (((first | apply OL.op | apply QL.op); exact Guard.au; rfl; rfl); (exact Pev.call (v := .bool (decide (0 ≤ main) && decide (main ≤ (fns.length : Int) - 1))) rfl (by exact Args.au) (fun _ w2 hw2 => (Within_calls main 0 _ w2).mono (fun e w3 h => ⟨h.1, hw2.ext h.2⟩))))
 refine zgs ?_
 refine W.cond rfl (fun h3 => ?_) (fun h3 => ?_)
 ·refine zgs ?_
  (refine zfn ?_; intro w' hw')
  rw [hUE, if_pos (by simp at h3; omega)]
  exact ⟨rfl, by (exact hw'.fr)⟩
 have h3' : 0 ≤ main ∧ main < (fns.length : Int) := by simp at h3; omega
 rw [if_neg (by omega)] at hUE
 obtain ⟨mn, rfl⟩ : ∃ mn : Nat, main = (mn : Int) := ⟨main.toNat, by omega⟩
 have hml : mn < fns.length := by omega
 rw [Int.toNat_natCast] at hUE
 obtain ⟨am, xm, hqm, ham, hxm, hcM, hokM⟩ := hu.get hml
 have ham : am.block < w.heap.size := ham
 have hcM : CellsAt w (am.add (mn * 2)) [.int .i64 xm.1.name, .slice xm.2.q xm.1.blocks.length xm.2.c] := hcM
 subst hqm
 have hF : ∀ (x : Go.Ss.Fn × FnY) (H : List Eng.Item) (S : List World) (w2 : World), FnOk w (low w) x.1 x.2 → Cls H S w2 → w ∈ S → (∀ k, k < w.heap.size → NotOwned H k) → FnOk w2 (low w2) x.1 x.2 := fun x H S w2 h hw2 hs hno => fnR.mono (hw2.up hs) (fnR.stab (hw2.same hs hno) h)
 refine zgs ?_
 revert hbk
 revert bk
 intro bU hbU
 have hno : ∀ k, k < w.heap.size → NotOwned [blk bU 55 [Value.slice (some am) fns.length c, Value.int IntKind.i64 (mn : Int)]] k := fun k hk => NotOwned.blk (by have : w.heap.size ≤ bU := hbU; omega) NotOwned.nil
 refine W.loop (G := Nat) (fun k => k ≤ fns.length ∧ firstE funcE (fns.map Prod.fst) = firstE funcE ((fns.map Prod.fst).drop k)) (fun k => fns.length - k)
  (fun k => [(1, true, .pointer (some ⟨bU, 0, none⟩)), (30, true, .slice (some am) fns.length c), (31, true, .int .i64 (fns.length : Int)), (32, true, .int .i64 (k : Int))])
  (fun _ => Cls [blk bU 55 [Value.slice (some am) fns.length c, Value.int IntKind.i64 (mn : Int)]] [w]) 0 ⟨by omega, rfl⟩ (by exact Sub.au) (fun w' hw' => hw') ?_
 rintro k ⟨hk, hkE⟩
 refine zgs ?_
 refine W.cnd ?_ ?_ <;> intro hltk <;> try exact zwx hltk
 ·have hkl : k < fns.length := by omega
  obtain ⟨a, x, hqa, hab, hx, hcF, hok⟩ := hu.get hkl
  obtain rfl := Option.some.inj hqa
  have hab : am.block < w.heap.size := hab
  have hcF : CellsAt w (am.add (k * 2)) [.int .i64 x.1.name, .slice x.2.q x.1.blocks.length x.2.c] := hcF
  have hxm2 : (fns.map Prod.fst)[k]? = some x.1 := by rw [List.getElem?_map, hx]; rfl
  have hstp := firstE_nx hxm2 hkE
  refine zgs ?_
  apply OL.alloc; rfl; rfl; exact CellsL.agg; (intro bk hbk; simp only [AllLe, and_true] at hbk)
  refine zgs ?_
  (((first | apply OL.op | apply QL.op); exact Guard.au; rfl; rfl); (exact Pev.call (v := .int .i64 (funcE x.1)) rfl (by exact Args.au) (fun _ w2 hw2 => (FuncErr_calls x.1 x.2 w2 (hF x _ _ w2 hok hw2 (by exact mau) (fun k hk => by exact NotOwned.au))).mono (fun e w3 h => ⟨h.1, hw2.ext h.2⟩))))
  refine zgs ?_
  refine W.cnd ?_ ?_ <;> intro hne <;> try exact zwx hne
  ·refine zgs ?_
   (refine zfn ?_; intro w' hw')
   rw [hUE, if_pos (by rw [hstp.2 (by omega)]; omega), hstp.2 (by omega)]
   exact ⟨rfl, by (exact hw'.fr)⟩
  refine zgs ?_
  exact At.again (k + 1) ⟨by omega, hstp.1 (by omega)⟩ (by omega) (by exact Sub.au) (fun w' hw' => hw'.thin (by exact Thin.au))
 obtain rfl : k = fns.length := by omega
 have hE0 : firstE funcE (fns.map Prod.fst) = 0 := by
  rw [hkE, List.drop_of_length_le (by simp)]
  rfl
 rw [if_neg (by rw [hE0]; simp)] at hUE
 have hbl : ∀ (k : Nat) p, fns[k]? = some p → 0 < p.1.blocks.length := fun k p hp => (func_zero (firstE_zero.1 hE0 p.1 (List.mem_map.2 ⟨p, List.mem_of_getElem? hp, rfl⟩))).1
 have hfz : ∀ (k : Nat) p, fns[k]? = some p → shapeE p.1.blocks = 0 := fun k p hp => (func_zero (firstE_zero.1 hE0 p.1 (List.mem_map.2 ⟨p, List.mem_of_getElem? hp, rfl⟩))).2.2
 have hbM := hbl mn xm hxm
 obtain ⟨esM, hesM, heM⟩ := hokM.b
 have helM : esM.length = xm.1.blocks.length := by rw [← hesM, List.length_map]
 obtain ⟨aB, y, hqB, habB, hy, hcB, hokB⟩ := heM.get (show 0 < esM.length by omega)
 have habB : aB.block < w.heap.size := habB
 have hcB : CellsAt w (aB.add (0 * 7)) [.slice y.2.p.1 y.1.params.length y.2.p.2, .slice y.2.i.1 y.1.ins.length y.2.i.2, .int .i64 y.1.term.kind, .int .i64 y.1.term.arg, .int .i64 y.1.term.n, .slice y.2.t.c.1 y.1.term.cases.length y.2.t.c.2, .slice y.2.t.t.1 y.1.term.to_.length y.2.t.t.2] := hcB
 have hpar : parB (fns.map Prod.fst) mn 0 = y.1.params := by
  unfold parB
  rw [fnB_map hxm, List.getD_eq_getElem?_getD, ← hesM, List.getElem?_map, hy]
  rfl
 rw [hpar] at hUE
 rw [hqB] at hcM
 refine zgs ?_
 refine W.cnd ?_ ?_ <;> intro h5 <;> try exact zwx h5
 ·refine zgs ?_
  (refine zfn ?_; intro w' hw')
  rw [hUE, if_pos (by omega)]
  exact ⟨rfl, by (exact hw'.fr)⟩
 rw [if_neg (by omega)] at hUE
 rw [hUE]
 clear hUE
 refine zgs ?_
 refine W.loop (G := Nat) (fun k => k ≤ fns.length ∧ firstE (fun f : Go.Ss.Fn => firstE (fun b : Bk => firstE (callE (fns.map Prod.fst)) b.ins) f.blocks) (fns.map Prod.fst) = firstE (fun f : Go.Ss.Fn => firstE (fun b : Bk => firstE (callE (fns.map Prod.fst)) b.ins) f.blocks) ((fns.map Prod.fst).drop k)) (fun k => fns.length - k)
  (fun k => [(1, true, .pointer (some ⟨bU, 0, none⟩)), (55, true, .slice (some am) fns.length c), (56, true, .int .i64 (fns.length : Int)), (57, true, .int .i64 (k : Int))])
  (fun _ => Cls [blk bU 55 [Value.slice (some am) fns.length c, Value.int IntKind.i64 (mn : Int)]] [w]) 0 ⟨by omega, rfl⟩ (by exact Sub.au) (fun w' hw' => hw') ?_
 rintro k ⟨hk, hkE⟩
 refine zgs ?_
 refine W.cnd ?_ ?_ <;> intro hltk2 <;> try exact zwx hltk2
 ·have hkl : k < fns.length := by omega
  obtain ⟨a, x, hqa, hab, hx, hcF, hok⟩ := hu.get hkl
  obtain rfl := Option.some.inj hqa
  have hab : am.block < w.heap.size := hab
  have hcF : CellsAt w (am.add (k * 2)) [.int .i64 x.1.name, .slice x.2.q x.1.blocks.length x.2.c] := hcF
  have hxm2 : (fns.map Prod.fst)[k]? = some x.1 := by rw [List.getElem?_map, hx]; rfl
  have hstp := firstE_nx hxm2 hkE
  have hshx := hfz k x hx
  have hblx := hok.bl
  obtain ⟨es, hes, he⟩ := hok.b
  have hel : x.1.blocks.length = es.length := by rw [← hes, List.length_map]
  refine zgs ?_
  apply OL.alloc; rfl; rfl; exact CellsL.agg; (intro bk hbk; simp only [AllLe, and_true] at hbk)
  refine zgs ?_
  revert hbk
  revert bk
  intro bF hbF
  refine W.loop (G := Nat) (fun j => j ≤ es.length ∧ firstE (fun b : Bk => firstE (callE (fns.map Prod.fst)) b.ins) x.1.blocks = firstE (fun b : Bk => firstE (callE (fns.map Prod.fst)) b.ins) (x.1.blocks.drop j)) (fun j => es.length - j)
   (fun j => [(1, true, .pointer (some ⟨bU, 0, none⟩)), (55, true, .slice (some am) fns.length c), (56, true, .int .i64 (fns.length : Int)), (57, true, .int .i64 (k : Int)), (62, true, .slice x.2.q x.1.blocks.length x.2.c), (63, true, .int .i64 (x.1.blocks.length : Int)), (64, true, .int .i64 (j : Int))])
   (fun _ => Cls [blk bF 24 [.int .i64 x.1.name, .slice x.2.q x.1.blocks.length x.2.c], blk bU 55 [Value.slice (some am) fns.length c, Value.int IntKind.i64 (mn : Int)]] [w]) 0 ⟨by omega, rfl⟩ (by exact Sub.au) (fun w' hw' => hw') ?_
  rintro j ⟨hj, hjE⟩
  refine zgs ?_
  refine W.cnd ?_ ?_ <;> intro hltj <;> try exact zwx hltj
  ·have hjl : j < es.length := by omega
   obtain ⟨a2, p, hqa2, hab2, hp, hcell2, hokB2⟩ := he.get hjl
   have hab2 : a2.block < w.heap.size := hab2
   have hcell2 : CellsAt w (a2.add (j * 7)) [.slice p.2.p.1 p.1.params.length p.2.p.2, .slice p.2.i.1 p.1.ins.length p.2.i.2, .int .i64 p.1.term.kind, .int .i64 p.1.term.arg, .int .i64 p.1.term.n, .slice p.2.t.c.1 p.1.term.cases.length p.2.t.c.2, .slice p.2.t.t.1 p.1.term.to_.length p.2.t.t.2] := hcell2
   have hbsk : x.1.blocks[j]? = some p.1 := by rw [← hes, List.getElem?_map, hp]; rfl
   have hstp2 := firstE_nx hbsk hjE
   have hil := hokB2.il
   obtain ⟨pi, hpi, hiarr⟩ := hokB2.i
   have hpil : p.1.ins.length = pi.length := by rw [← hpi, List.length_map]
   rw [hqa2]
   refine zgs ?_
   apply OL.alloc; rfl; rfl; exact CellsL.agg; (intro bk hbk; simp only [AllLe, and_true] at hbk)
   refine zgs ?_
   revert hbk
   revert bk
   intro b9 hb9
   refine W.loop (G := Nat) (fun n => n ≤ pi.length ∧ firstE (callE (fns.map Prod.fst)) p.1.ins = firstE (callE (fns.map Prod.fst)) (p.1.ins.drop n)) (fun n => pi.length - n)
    (fun n => [(1, true, .pointer (some ⟨bU, 0, none⟩)), (55, true, .slice (some am) fns.length c), (56, true, .int .i64 (fns.length : Int)), (57, true, .int .i64 (k : Int)), (62, true, .slice (some a2) x.1.blocks.length x.2.c), (63, true, .int .i64 (x.1.blocks.length : Int)), (64, true, .int .i64 (j : Int)), (69, true, .slice p.2.i.1 p.1.ins.length p.2.i.2), (70, true, .int .i64 (p.1.ins.length : Int)), (71, true, .int .i64 (n : Int))])
    (fun _ => Cls [blk b9 41 [.slice p.2.p.1 p.1.params.length p.2.p.2, .slice p.2.i.1 p.1.ins.length p.2.i.2, .int .i64 p.1.term.kind, .int .i64 p.1.term.arg, .int .i64 p.1.term.n, .slice p.2.t.c.1 p.1.term.cases.length p.2.t.c.2, .slice p.2.t.t.1 p.1.term.to_.length p.2.t.t.2], blk bF 24 [.int .i64 x.1.name, .slice (some a2) x.1.blocks.length x.2.c], blk bU 55 [Value.slice (some am) fns.length c, Value.int IntKind.i64 (mn : Int)]] [w]) 0 ⟨by omega, rfl⟩ (by exact Sub.au) (fun w' hw' => hw') ?_
   rintro n ⟨hn, hnE⟩
   refine zgs ?_
   refine W.cnd ?_ ?_ <;> intro hltn <;> try exact zwx hltn
   ·have hnl : n < pi.length := by omega
    obtain ⟨a3, iu, hq3, hab3, hiu, hcI, hokI⟩ := hiarr.get hnl
    have hab3 : a3.block < w.heap.size := hab3
    have hcI : CellsAt w (a3.add (n * 4)) (inC iu.1 iu.2) := hcI
    have hin : p.1.ins[n]? = some iu.1 := by rw [← hpi, List.getElem?_map, hiu]; rfl
    have hstp3 := firstE_nx hin hnE
    have hform := ins_form hshx hbsk hin
    have hnn : iu.1.op = 13 ∨ iu.1.op = 9 → 0 ≤ iu.1.n := fun e => by
     obtain ⟨_, _, _, _, _, _, h6⟩ := form_zero hform
     unfold numB at h6
     rw [if_neg (by omega), if_pos (by omega)] at h6
     simp only [Bool.and_eq_true, decide_eq_true_eq] at h6
     omega
    rw [hq3]
    unfold inC at hcI
    refine zgs ?_
    apply OL.alloc; rfl; rfl; exact CellsL.agg; (intro bk hbk; simp only [AllLe, and_true] at hbk)
    refine zgs ?_
    have hT : ∀ e : Int, callE (fns.map Prod.fst) iu.1 = e → e ≠ 0 → firstE (fun f : Go.Ss.Fn => firstE (fun b : Bk => firstE (callE (fns.map Prod.fst)) b.ins) f.blocks) (fns.map Prod.fst) = e := fun e he h0 => by
     have hne : callE (fns.map Prod.fst) iu.1 ≠ 0 := by rw [he]; exact h0
     rw [hstp.2 (by rw [hstp2.2 (by rw [hstp3.2 hne]; exact hne), hstp3.2 hne]; exact hne)]
     rw [hstp2.2 (by rw [hstp3.2 hne]; exact hne), hstp3.2 hne]
     exact he
    by_cases hop : iu.1.op = 13 ∨ iu.1.op = 9
    ·refine W.cond rfl (fun h => by simp at h; omega) (fun _ => ?_)
     have hn0 := hnn hop
     obtain ⟨z, hz⟩ : ∃ z : Nat, iu.1.n = (z : Int) := ⟨iu.1.n.toNat, by omega⟩
     have hE : callE (fns.map Prod.fst) iu.1 = if (fns.length : Int) ≤ (z : Int) then 4 else if (iu.1.op = 13 ∧ (parB (fns.map Prod.fst) z 0).length ≠ iu.1.args.length) ∨ (iu.1.op = 9 ∧ (parB (fns.map Prod.fst) z 0).length = 0) then 3 else 0 := by
      unfold callE
      rw [if_neg (by omega), List.length_map, hz, Int.toNat_natCast]
     rw [hz]
     refine zgs ?_
     refine W.cnd ?_ ?_ <;> intro h7 <;> try exact zwx h7
     ·rw [if_pos (by omega)] at hE
      rw [hT 4 hE (by decide)]
      refine zgs ?_
      (refine zfn ?_; intro w' hw')
      exact ⟨rfl, by (exact hw'.fr)⟩
     rw [if_neg (by omega)] at hE
     have hzl : z < fns.length := by omega
     obtain ⟨a4, x4, hqa4, hab4, hx4, hcF4, hok4⟩ := hu.get hzl
     obtain rfl := Option.some.inj hqa4
     have hcF4 : CellsAt w (am.add (z * 2)) [.int .i64 x4.1.name, .slice x4.2.q x4.1.blocks.length x4.2.c] := hcF4
     have hbl4 := hbl z x4 hx4
     obtain ⟨es4, hes4, he4⟩ := hok4.b
     have hel4 : es4.length = x4.1.blocks.length := by rw [← hes4, List.length_map]
     obtain ⟨a5, y5, hq5, hab5, hy5, hcB5, hokB5⟩ := he4.get (show 0 < es4.length by omega)
     have hab5 : a5.block < w.heap.size := hab5
     have hcB5 : CellsAt w (a5.add (0 * 7)) [.slice y5.2.p.1 y5.1.params.length y5.2.p.2, .slice y5.2.i.1 y5.1.ins.length y5.2.i.2, .int .i64 y5.1.term.kind, .int .i64 y5.1.term.arg, .int .i64 y5.1.term.n, .slice y5.2.t.c.1 y5.1.term.cases.length y5.2.t.c.2, .slice y5.2.t.t.1 y5.1.term.to_.length y5.2.t.t.2] := hcB5
     have hpar5 : parB (fns.map Prod.fst) z 0 = y5.1.params := by
      unfold parB
      rw [fnB_map hx4, List.getD_eq_getElem?_getD, ← hes4, List.getElem?_map, hy5]
      rfl
     rw [hpar5] at hE
     rw [hq5] at hcF4
     refine zgs ?_
     refine W.cond rfl (fun h => ?_) (fun h => ?_)
     ·have hbad : (iu.1.op = 13 ∧ y5.1.params.length ≠ iu.1.args.length) ∨ (iu.1.op = 9 ∧ y5.1.params.length = 0) := by
       rcases hop with e | e
       ·rw [e] at h ⊢; simp at h; omega
       ·rw [e] at h ⊢; simp at h; simp [h]
      rw [if_pos hbad] at hE
      rw [hT 3 hE (by decide)]
      refine zgs ?_
      (refine zfn ?_; intro w' hw')
      exact ⟨rfl, by (exact hw'.fr)⟩
     ·have hbad : ¬ ((iu.1.op = 13 ∧ y5.1.params.length ≠ iu.1.args.length) ∨ (iu.1.op = 9 ∧ y5.1.params.length = 0)) := by
       rcases hop with e | e
       ·rw [e] at h ⊢; simp at h; omega
       ·rw [e] at h ⊢; simp at h; simp [h]
      rw [if_neg hbad] at hE
      refine zgs ?_
      exact At.again (n + 1) ⟨by omega, hstp3.1 hE⟩ (by omega) (by exact Sub.au) (fun w' hw' => hw'.thin (by exact Thin.au))
    refine W.cond rfl (fun _ => ?_) (fun h => by simp at h; omega)
    have hE : callE (fns.map Prod.fst) iu.1 = 0 := by
     unfold callE
     rw [if_pos (by omega)]
    refine zgs ?_
    exact At.again (n + 1) ⟨by omega, hstp3.1 hE⟩ (by omega) (by exact Sub.au) (fun w' hw' => hw'.thin (by exact Thin.au))
   obtain rfl : n = pi.length := by omega
   have hz3 : firstE (callE (fns.map Prod.fst)) p.1.ins = 0 := by
    rw [hnE, List.drop_of_length_le (by omega)]
    rfl
   refine zgs ?_
   exact At.again (j + 1) ⟨by omega, hstp2.1 hz3⟩ (by omega) (by exact Sub.au) (fun w' hw' => hw'.thin (by exact Thin.au))
  obtain rfl : j = es.length := by omega
  have hz2 : firstE (fun b : Bk => firstE (callE (fns.map Prod.fst)) b.ins) x.1.blocks = 0 := by
   rw [hjE, List.drop_of_length_le (by omega)]
   rfl
  refine zgs ?_
  exact At.again (k + 1) ⟨by omega, hstp.1 hz2⟩ (by omega) (by exact Sub.au) (fun w' hw' => hw'.thin (by exact Thin.au))
 obtain rfl : k = fns.length := by omega
 have hz1 : firstE (fun f : Go.Ss.Fn => firstE (fun b : Bk => firstE (callE (fns.map Prod.fst)) b.ins) f.blocks) (fns.map Prod.fst) = 0 := by
  rw [hkE, List.drop_of_length_le (by simp)]
  rfl
 rw [hz1]
 refine zgs ?_
 (refine zfn ?_; intro w' hw')
 exact ⟨rfl, by (exact hw'.fr)⟩
end Go.Proofs.Ytehelljmaiophaa.ss
