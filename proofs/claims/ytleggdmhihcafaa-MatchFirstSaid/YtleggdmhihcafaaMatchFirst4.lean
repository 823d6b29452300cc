/- Texts of the proof of MatchFirst, part 4: rules of a calculus for walking, plain laws, and walks of the functions that the law reaches. No condition. -/
import Derived.Test.YtleggdmhihcafaaMatchFirst3
set_option linter.unusedVariables false
set_option linter.unusedSimpArgs false
set_option linter.unusedSectionVars false
/- The walk of the builder's build. Conditions: none. -/
namespace Go.Pt
open Go.Eng Go.RowKit
structure GCs where
 g : BG
 On : Nat → Prop
 qn : Option Addr
 cn : Nat
 ns : List ByteArray
 Ok : Nat → Prop
 qk : Option Addr
 ck : Nat
 ks : List Int
theorem hasP_C (at_ : Nat) (nm : ByteArray) (r : RowE) : hasP at_ (isC nm) r = hasC at_ nm (rowP r) := by
 unfold hasP hasC rowP
 simp only [List.getElem?_map]
 cases r.2.1[at_]? <;> rfl
theorem any_rowP (at_ : Nat) (nm : ByteArray) (rs : List RowE) : rs.any (hasP at_ (isC nm)) = (rs.map rowP).any (hasC at_ nm) := by
 rw [List.any_map]
 congr 1
 funext r
 exact hasP_C at_ nm r
end Go.Pt
namespace Go.Proofs.Ytleggdmhihcafaa.pt
open Go.RowKit Go.Eng Go.Pt
set_option maxRecDepth 100000
set_option maxHeartbeats 6400000 in
theorem build_of (D : List Da) (s : World) (bm : Nat) (qd : Option Addr) (ds : List (Da × DY)) (hbas : Bas D s bm qd ds) (f : Nat) (hB : BuildC D s bm f) : BuildC D s bm (f + 1) := by
 intro S X bb g q qp cap capp d b rs ps w hs hbb hX hg hin hmo hb1 hb2 hw
 refine enter Try.func26 rfl Try.ntmps26 rfl hw ?_
 have hbs : ∃ s' ∈ S, s.heap.size ≤ s'.heap.size := ⟨s, hs, Nat.le_refl _⟩
 have hnoI : ∀ g1 : BG, ∀ k, k < s.heap.size → NotOwned (bI s.heap.size bb bm g1 X) k := fun g1 => bI_no hbb hX
 have hml := hmo.lt (by omega)
 have hml : g.many ≤ b := hml
 obtain ⟨gE, hgE⟩ : ∃ gE : BG, gE = ⟨g.many + 1, g.full || decide (4096 < g.many + 1), g.outs, g.O, g.q, g.c, g.OA, g.L⟩ := ⟨_, rfl⟩
 have hstE : gE.st = enterS g.st := by rw [hgE]; rfl
 have hmoE : Mo (d + 1) (b + 1) gE.st := by
  rw [hstE]
  exact hmo.enter (by omega)
 (simp only [argEnv, Nat.zero_add, Nat.reduceAdd])
 unfold bI
 apply W.sr
 apply oas; rfl; rfl
 apply OL.nsr
 apply omv; rfl; rfl
 apply oop; rfl; apply Pev.nil_ptr; rfl; exact yes
 apply ofa; rfl; rfl; rfl
 apply old; rfl; rfl; exact .head _; rfl; rfl
 apply obn; rfl; rfl; rfl; apply Bin.add_in; omega
 apply oop; rfl; apply Pev.nil_ptr; rfl; exact yes
 apply ofa; rfl; rfl; rfl
 apply OL.storeB; rfl; rfl; exact CellsL.one rfl; rfl; rfl; rfl; exact Swap.au; exact Put.au
 apply OL.nsr
 apply omv; rfl; rfl
 apply omv; rfl; rfl
 apply oop; rfl; apply Pev.nil_ptr; rfl; exact yes
 apply ofa; rfl; rfl; rfl
 apply old; rfl; rfl; exact .head _; rfl; rfl
 apply omv; rfl; rfl
 apply ono; rfl; rfl; rfl; apply Pev.move; rfl; exact yes
 apply ono; rfl; rfl; rfl; apply Pev.nil_ptr; rfl; exact fun h => h
 apply ono; rfl; rfl; rfl; apply Pev.fld; rfl; exact fun h => h; rfl
 apply ono; rfl; rfl; rfl; apply Pev.load_blk; rfl; exact fun h => h; exact .head _; rfl; rfl
 apply ono; rfl; rfl; rfl; apply Pev.bin; rfl; exact fun h => h; rfl; exact yes; intro hcond; apply Bin.gtr
 apply oop; rfl; apply Pev.pick_or; rfl; exact yes; rfl; exact fun h => h
 apply oop; rfl; apply Pev.nil_ptr; rfl; exact yes
 apply ofa; rfl; rfl; rfl
 apply OL.storeB; rfl; rfl; exact CellsL.one rfl; rfl; rfl; rfl; exact Swap.au; exact Put.au
 apply OL.nx
 apply W.seq
 apply W.sr
 apply omv; rfl; rfl
 apply oop; rfl; apply Pev.len_slice; rfl; exact yes; rfl
 apply obn; rfl; rfl; rfl; apply Bin.eql
 apply omv; rfl; rfl
 apply ono; rfl; rfl; rfl; apply Pev.move; rfl; exact yes
 apply ono; rfl; rfl; rfl; apply Pev.nil_ptr; rfl; exact fun h => h
 apply ono; rfl; rfl; rfl; apply Pev.fld; rfl; exact fun h => h; rfl
 apply ono; rfl; rfl; rfl; apply Pev.load_blk; rfl; exact fun h => h; exact .head _; rfl; rfl
 apply oop; rfl; apply Pev.pick_or; rfl; exact yes; rfl; exact fun h => h
 apply OL.nx
 have em : (g.many : Int) + 1 = ((g.many + 1 : Nat) : Int) := by omega
 have eb : (g.full || decide (4096 < ((g.many + 1 : Nat) : Int))) = (g.full || decide (4096 < g.many + 1)) := by
  congr 1
  exact decide_eq_decide.2 (by omega)
 rw [em, eb]
 obtain ⟨fl, hfl⟩ : ∃ fl, (g.full || decide (4096 < g.many + 1)) = fl := ⟨_, rfl⟩
 rw [hfl] at hgE ⊢
 have hflE : gE.full = fl := by rw [hgE]
 refine W.cls (C' := Cls (bI s.heap.size bb bm gE X) S) (fun w2 hw2 => by rw [hgE]; exact hw2) ?_
 have hLE : gE.L = g.L := by rw [hgE]
 have hgE1 : ∀ z ∈ gE.outs, NdSeen s gE.L z := by rw [hgE]; exact hg
 have hinE : InB D s gE.L q qp capp rs ps (f + 1) := by rw [hLE]; exact hin
 have houE : gE.outs.length ≤ 1000000 := by
  have h1 := hmoE.out
  have h2 := hmoE.lt (by omega)
  have h3 : gE.st.out.length = gE.outs.length := by simp [BG.st]
  omega
 clear hgE em eb
 by_cases hA : rs.length = 0 ∨ fl = true
 ·have hbE : buildE D (f + 1) g.st (rs.map rowP) (ps.map Prod.fst) = addN gE.st failN := by
   rw [hstE]
   cases rs with
   | nil => rfl
   | cons r0 rest =>
    have hf1 : (enterS g.st).full = true := by
     rw [← hstE]
     show gE.full = true
     rw [hflE]
     rcases hA with h | h
     ·cases h
     ·exact h
    rw [List.map_cons, buildE, if_pos hf1]
  rw [hbE]
  refine W.cond rfl (fun _ => ?_) (fun hb => ?_)
  ·apply W.sr
   apply omv; rfl; rfl
   apply oop; rfl; apply Pev.build; rfl; exact CellsL.agg; rfl; exact Fill.au; rfl
   obtain ⟨nd, hnd⟩ : ∃ nd : NdE, nd = (failN, ⟨(none, 0), (none, 0), (none, 0), (none, 0)⟩) := ⟨_, rfl⟩
   have hns : NdSeen s gE.L nd := by
    rw [hnd]
    exact ⟨Seen.nil, Seen.nil, Seen.nil, Seen.nil, ⟨Nat.zero_le _, Nat.zero_le _, Nat.zero_le _, Nat.zero_le _⟩, fun _ => rfl, Nat.le_refl _, Nat.le_refl _⟩
   rw [show failN = nd.1 by rw [hnd]]
   refine OL.callE (α := BG) (fun y => .int .i64 (addN gE.st nd.1).2) (fun y => y.st = (addN gE.st nd.1).1 ∧ y.L = gE.L ∧ ∀ z ∈ y.outs, NdSeen s gE.L z) (fun y => Cls (bI s.heap.size bb bm y X) S) rfl rfl (by exact Args.au) (fun w2 hw2 => ?_) ?_
   ·have hc := add_calls s S X bb bm gE nd w2 hs hbb hX houE hgE1 hns hw2
    rw [hnd] at hc ⊢
    refine hc.mono ?_
    rintro e w3 ⟨g3, k1, k2, k3, k4, k5⟩
    exact ⟨g3, k1, ⟨k2, k3, k4⟩, k5⟩
   rintro g3 ⟨hst3, hL3, hg3⟩
   apply oas; rfl; rfl
   apply OL.nx
   refine W.rt ?_
   ((with_reducible apply At.fin1); rfl; rfl; intro w' hw')
   refine ⟨g3, rfl, hst3, fun x hx => by rw [hL3, hLE]; exact hx, fun z hz => by rw [hL3]; exact hg3 z hz, ?_, hw'⟩
   rw [hst3]
   exact hmoE.add nd.1
  ·exfalso
   rcases hA with h | h
   ·simp [h] at hb
   ·simp [h] at hb
 have hr0 : ¬ rs.length = 0 := fun h => hA (.inl h)
 have hff : fl = false := by simpa using fun h => hA (.inr h)
 rw [hff]
 refine W.cond rfl (fun hb => ?_) (fun _ => ?_)
 ·exfalso
  have h3 : decide ((rs.length : Int) = 0) = false := decide_eq_false (by omega)
  rw [h3] at hb
  cases hb
 obtain ⟨r0, rest, hrs⟩ : ∃ r0 rest, rs = r0 :: rest := by
  cases rs with
  | nil => exact absurd rfl hr0
  | cons a b => exact ⟨a, b, rfl⟩
 have hr0i : rs[0]? = some r0 := by rw [hrs]; rfl
 have hr0m : r0 ∈ rs := List.mem_of_getElem? hr0i
 obtain ⟨hs0, hc0, he0⟩ := hinE.rel r0 hr0m
 have hl0 := hinE.plen hr0m
 have hcols := hin.cols
 obtain ⟨a0, hq0, hcell0⟩ := hinE.rsl.elem rowC_len (by decide) hr0i
 have hE2 : buildE D (f + 1) g.st (rs.map rowP) (ps.map Prod.fst) = if nfi (rowP r0).2 < 0 then addN gE.st (rowN r0.1) else nodeE D (buildE D f) gE.st (rs.map rowP) (ps.map Prod.fst) (nfi (rowP r0).2).toNat ((rowP r0).2.getD (nfi (rowP r0).2).toNat anyT) := by
  rw [hrs, List.map_cons, buildE, hstE]
  have hf1 : (enterS g.st).full = false := by
   rw [← hstE]
   show gE.full = false
   rw [hflE, hff]
  rw [if_neg (by rw [hf1]; decide)]
  rfl
 rw [hE2]
 obtain ⟨nx, hnx⟩ : ∃ nx, nfi (rowP r0).2 = nx := ⟨_, rfl⟩
 rw [hnx]
 have hnxF : idxF (fun p => !free p) r0.2.1 0 = nx := by
  rw [← hnx, idxF_P]
  exact (idxP_map (fun p => !free p) Prod.fst r0.2.1 0).symm
 rw [hq0]
 unfold bI
 apply W.sk
 apply W.sr
 apply omv; rfl; rfl
 apply oop; rfl; apply Pev.idx; rfl; exact yes; rfl; exact yes; rfl; rfl; intro hcond; (simp only [Bool.and_eq_true, Bool.or_eq_true, Bool.not_eq_true', decide_eq_true_eq, decide_eq_false_iff_not] at *; omega)
 apply oop; rfl; apply Pev.fldA; rfl; exact yes; rfl
 (((first | (with_reducible apply OL.op) | (with_reducible apply QL.op)); (exact Guard.au); rfl; rfl); (refine Pev.load_cls (v := .slice r0.2.2.1 r0.2.1.length r0.2.2.2) rfl (by (first | exact fun _ => rfl | exact fun h => h | (intro h; simp_all; done))) rfl (fun _ w2 hw2 => hcell0 _ S w2 gE.OA hw2 hs (by exact mau) (hnoI gE) 1 _ rfl)))
 skip
 (((first | (with_reducible apply OL.op) | (with_reducible apply QL.op)); (exact Guard.au); rfl; rfl); (refine Pev.call (v := .int .i64 nx) rfl (by exact Args.au) (fun _ w2 hw2 => ?_)))
 ·have hc := IndexFunc_calls r0.2.2.1 r0.2.2.2 r0.2.1 48 [] [] (fun p => !free p) w2 (by omega) (hs0.slAt hw2 hs (by exact mau) (hnoI gE)) rfl (fun z hz w' _ => build1_calls z.1 z.2 w')
  rw [hnxF] at hc
  exact hc.mono (fun e w3 h => ⟨h.1, hw2.ext h.2⟩)
 apply OL.alloc; rfl; rfl; exact CellsL.one rfl; intro bk hbk
 apply OL.storeB; rfl; rfl; exact CellsL.one rfl; rfl; rfl; rfl; exact Swap.au; exact Put.au
 apply OL.nx
 apply W.seq
 apply W.sr
 apply old; rfl; rfl; exact .head _; rfl; rfl
 apply obn; rfl; rfl; rfl; apply Bin.lss
 apply OL.nx
 revert bk
 intro b7 hb7
 have hal7 := AllLe.mem hb7 s hs
 by_cases hn0 : nx < 0
 ·rw [if_pos hn0]
  refine W.cond rfl (fun _ => ?_) (fun hb => absurd (of_decide_eq_false hb) (by omega))
  apply W.sr
  apply omv; rfl; rfl
  apply omv; rfl; rfl
  apply oop; rfl; apply Pev.idx; rfl; exact yes; rfl; exact yes; rfl; rfl; intro hcond; (simp only [Bool.and_eq_true, Bool.or_eq_true, Bool.not_eq_true', decide_eq_true_eq, decide_eq_false_iff_not] at *; omega)
  apply oop; rfl; apply Pev.fldA; rfl; exact yes; rfl
  (((first | (with_reducible apply OL.op) | (with_reducible apply QL.op)); (exact Guard.au); rfl; rfl); (refine Pev.load_cls (v := .int .i64 r0.1) rfl (by (first | exact fun _ => rfl | exact fun h => h | (intro h; simp_all; done))) rfl (fun _ w2 hw2 => hcell0 _ S w2 gE.OA hw2 hs (by exact mau) (fun k hk => NotOwned.blk (by omega) (hnoI gE k hk)) 0 _ rfl)))
  apply oop; rfl; apply Pev.build; rfl; exact CellsL.agg; rfl; exact Fill.au; rfl
  obtain ⟨nd, hnd⟩ : ∃ nd : NdE, nd = (rowN r0.1, ⟨(none, 0), (none, 0), (none, 0), (none, 0)⟩) := ⟨_, rfl⟩
  have hns : NdSeen s gE.L nd := by
   rw [hnd]
   exact ⟨Seen.nil, Seen.nil, Seen.nil, Seen.nil, ⟨Nat.zero_le _, Nat.zero_le _, Nat.zero_le _, Nat.zero_le _⟩, fun _ => rfl, Nat.le_refl _, Nat.le_refl _⟩
  rw [show rowN r0.1 = nd.1 by rw [hnd]]
  refine OL.callE (α := BG) (fun y => .int .i64 (addN gE.st nd.1).2) (fun y => y.st = (addN gE.st nd.1).1 ∧ y.L = gE.L ∧ ∀ z ∈ y.outs, NdSeen s gE.L z) (fun y => Cls (bI s.heap.size bb bm y X) S) rfl rfl (by exact Args.au) (fun w2 hw2 => ?_) ?_
  ·have hc := add_calls s S X bb bm gE nd w2 hs hbb hX houE hgE1 hns (hw2.thin (.blk hb7 Thin.same))
   rw [hnd] at hc ⊢
   refine hc.mono ?_
   rintro e w3 ⟨g3, k1, k2, k3, k4, k5⟩
   exact ⟨g3, k1, ⟨k2, k3, k4⟩, k5⟩
  rintro g3 ⟨hst3, hL3, hg3⟩
  apply oas; rfl; rfl
  apply OL.nx
  refine W.rt ?_
  ((with_reducible apply At.fin1); rfl; rfl; intro w' hw')
  refine ⟨g3, rfl, hst3, fun x hx => by rw [hL3, hLE]; exact hx, fun z hz => by rw [hL3]; exact hg3 z hz, ?_, hw'⟩
  rw [hst3]
  exact hmoE.add nd.1
 rw [if_neg hn0]
 rw [← hnx] at hn0
 obtain ⟨at_, p, hat1, hpi, hpf, _⟩ := nfi_some hn0
 rw [hnx] at hat1
 rw [hat1, Int.toNat_natCast]
 have hgd : (rowP r0).2.getD at_ anyT = p := by rw [List.getD_eq_getElem?_getD, hpi]; rfl
 rw [hgd]
 obtain ⟨z0, hz0, hz0p⟩ : ∃ z0, r0.2.1[at_]? = some z0 ∧ z0.1 = p := by
  have h1 : (r0.2.1.map Prod.fst)[at_]? = some p := hpi
  rw [List.getElem?_map] at h1
  exact Option.map_eq_some_iff.1 h1
 have hatl : at_ < ps.length := by
  have := (List.getElem?_eq_some_iff.1 hz0).1
  omega
 obtain ⟨az, hqz, hzcell⟩ := hs0.elem tyR.clen (by decide) hz0
 have hr0P : ∃ r ∈ rs.map rowP, ∃ p, r.2[at_]? = some p ∧ free p = false := ⟨rowP r0, List.mem_map_of_mem hr0m, p, hpi, hpf⟩
 have hagr : ∀ r ∈ rs.map rowP, ∀ p2, r.2[at_]? = some p2 → free p2 = false → p2.kind = p.kind ∧ (p2.kind = 3 → dOf D p2.name = dOf D p.name) := fun r hr p2 hp2 hf2 => by
  have h1 : p2 ∈ col (rowsOf (rs.map rowP)) at_ := col_mem.2 ⟨r.2, List.mem_map_of_mem hr, hp2⟩
  have h2 : p ∈ col (rowsOf (rs.map rowP)) at_ := col_mem.2 ⟨(rowP r0).2, List.mem_map_of_mem (f := Prod.snd) (List.mem_map_of_mem hr0m), hpi⟩
  cases hin.mat.agr at_ with
  | mk hk _ => exact hk p2 h1 p h2 hf2 hpf
 have hno7 : ∀ k, k < s.heap.size → NotOwned [blk b7 3 [.int .i64 (at_ : Int)], blk bb 68 [.map (some bm), .slice gE.q gE.outs.length gE.c, .int .i64 (gE.many : Int), .bool gE.full], row s.heap.size gE.O gE.q gE.outs.length gE.c 77 6 (cat ndC gE.outs), arena s.heap.size gE.OA gE.L, X] k := fun k hk => NotOwned.blk (by omega) (hnoI gE k hk)
 refine W.cond rfl (fun hb => absurd (of_decide_eq_true hb) (by omega)) (fun _ => ?_)
 apply W.sk
 apply W.seq
 apply W.seq
 apply W.regd0; decide +kernel; kernel_rfl; decide +kernel; exact fun w hw => hw.drew
 apply qmv; rfl; rfl
 apply qop; rfl; apply Pev.idx; rfl; exact yes; rfl; exact yes; rfl; rfl; intro hcond; (simp only [Bool.and_eq_true, Bool.or_eq_true, Bool.not_eq_true', decide_eq_true_eq, decide_eq_false_iff_not] at *; omega)
 apply qop; rfl; apply Pev.fldA; rfl; exact yes; rfl
 (((first | (with_reducible apply OL.op) | (with_reducible apply QL.op)); (exact Guard.au); rfl; rfl); (refine Pev.load_cls (v := .slice (some az) r0.2.1.length r0.2.2.2) rfl (by (first | exact fun _ => rfl | exact fun h => h | (intro h; simp_all; done))) rfl (fun _ w2 hw2 => by rw [← hqz]; exact hcell0 _ S w2 gE.OA hw2 hs (by exact mau) hno7 1 _ rfl)))
 apply qld; rfl; rfl; exact .head _; rfl; rfl
 apply qop; rfl; apply Pev.idx; rfl; exact yes; rfl; exact yes; rfl; rfl; intro hcond; omega
 apply qop; rfl; apply Pev.fldA; rfl; exact yes; rfl
 (((first | (with_reducible apply OL.op) | (with_reducible apply QL.op)); (exact Guard.au); rfl; rfl); (refine Pev.load_cls (v := .int .i64 p.kind) rfl (by (first | exact fun _ => rfl | exact fun h => h | (intro h; simp_all; done))) rfl (fun _ w2 hw2 => by rw [← hz0p]; exact hzcell _ S w2 gE.OA hw2 hs (by exact mau) hno7 0 _ rfl)))
 apply qbn; rfl; rfl; rfl; apply Bin.eql
 apply QL.nil
 with_reducible apply At.next
 have hb0 : gE.st.full = false ∧ gE.st.many ≤ 4096 := by
  have h1 : gE.st.full = false := by
   show gE.full = false
   rw [hflE, hff]
  refine ⟨h1, ?_⟩
  rcases hmoE.lim with h | h
  ·exact h.2
  ·rw [h1] at h
   cases h.1
 by_cases hk2 : p.kind = 2
 ·have hnE : nodeE D (buildE D f) gE.st (rs.map rowP) (ps.map Prod.fst) at_ p = wordsE (buildE D f) gE.st (rs.map rowP) (ps.map Prod.fst) at_ := by
   unfold nodeE
   rw [if_pos hk2]
  rw [hnE]
  refine W.cond rfl (fun _ => ?_) (fun hb => absurd (of_decide_eq_false hb) (by omega))
  apply W.sr
  apply omv; rfl; rfl
  apply omv; rfl; rfl
  apply omv; rfl; rfl
  apply old; rfl; rfl; exact .head _; rfl; rfl
  refine OL.callE (α := BG) (fun y => .int .i64 (wordsE (buildE D f) gE.st (rs.map rowP) (ps.map Prod.fst) at_).2) (fun y => y.st = (wordsE (buildE D f) gE.st (rs.map rowP) (ps.map Prod.fst) at_).1 ∧ (∀ x ∈ gE.L, x ∈ y.L) ∧ (∀ z ∈ y.outs, NdSeen s y.L z) ∧ Mo d (b + 1) y.st) (fun y => Cls (bI s.heap.size bb bm y X) S) rfl rfl (by exact Args.au) (fun w2 hw2 => ?_) ?_
  ·have hc := words_of D s bm f hB S X bb gE q qp cap capp d b at_ rs ps w2 hs hbb hX hgE1 hinE hatl hr0P (fun r hr p2 hp2 hf2 => by rw [(hagr r hr p2 hp2 hf2).1]; exact hk2) ⟨hmoE.out, .inl hb0⟩ hb0 (by omega) hb2 (hw2.thin (.blk hb7 Thin.same))
   rw [hq0] at hc
   refine hc.mono ?_
   rintro e w3 ⟨g3, k1, k2, k3, k4, k5, k6⟩
   exact ⟨g3, k1, ⟨k2, k3, k4, k5.le (by omega)⟩, k6⟩
  rintro g3 ⟨hst3, hL3, hg3, hmo3⟩
  apply oas; rfl; rfl
  apply OL.nx
  refine W.rt ?_
  ((with_reducible apply At.fin1); rfl; rfl; intro w' hw')
  exact ⟨g3, rfl, hst3, fun x hx => hL3 x (by rw [hLE]; exact hx), hg3, hmo3, hw'⟩
 have hwf : Wf D p := hin.mat.wf (rowP r0).2 (List.mem_map_of_mem (f := Prod.snd) (List.mem_map_of_mem hr0m)) p (List.mem_of_getElem? hpi)
 have hk3 : p.kind = 3 := (hwf.kinds hpf).resolve_left hk2
 obtain ⟨d0, c0, hca, hcl, _⟩ := hwf.cons hk3
 have hnE : nodeE D (buildE D f) gE.st (rs.map rowP) (ps.map Prod.fst) at_ p = consE (buildE D f) (consOf D d0) gE.st (rs.map rowP) (ps.map Prod.fst) at_ := by
  unfold nodeE
  rw [if_neg hk2]
  simp only [consFor, hca]
 rw [hnE]
 obtain ⟨hbeq, hbarr, hbmap, hbml, hbdl, hb256, hbun⟩ := hbas
 have hdd : d0 < ds.length := by
  have hm := (conAt_mem hca).1
  unfold consOf at hm
  cases hx : D[d0]? with
  | none => rw [hx] at hm; cases hm
  | some x =>
   have := (List.getElem?_eq_some_iff.1 hx).1
   rw [← hbeq, List.length_map] at this
   exact this
 obtain ⟨ad, ud, hqd, hadb, hud, hcelld, ⟨dcs, hdcs, hdcsa⟩, hdcl⟩ := hbarr.get hdd
 have hadb : ad.block < s.heap.size := hadb
 have hdcsl : dcs.length = ud.1.cons.length := by rw [← hdcs, List.length_map]
 have hcof : consOf D d0 = dcs.map Prod.fst := by
  unfold consOf
  rw [← hbeq, List.getElem?_map, hud, hdcs]
  rfl
 have hd256 := hb256 ud (List.mem_of_getElem? hud)
 have hcelld : CellsAt s (ad.add (d0 * 3)) [.string ud.2.name, .int .i64 ud.2.params, .slice ud.2.q dcs.length ud.2.cap] := by
  rw [hdcsl]
  exact hcelld
 rw [← hdcsl] at hd256
 have hmg : mget (datV (datP qd) 0 D) p.name = some (.pointer (some (ad.add (d0 * 3)))) := by
  rw [datV_get, hca, hqd]
  show some (datP (some ad) (0 + d0)) = _
  rw [Nat.zero_add]
  rfl
 rw [hcof]
 obtain ⟨pp, hppi⟩ : ∃ pp, ps[at_]? = some pp := ⟨_, List.getElem?_eq_getElem hatl⟩
 have hppm := List.mem_of_getElem? hppi
 obtain ⟨hpsn, hpp0, hppl⟩ := hinE.pel pp hppm
 obtain ⟨ap, hqp, hpcell⟩ := hinE.psl.elem pthC_len (by decide) hppi
 have hgp : (ps.map Prod.fst).getD at_ [] = pp.1 := by rw [List.getD_eq_getElem?_getD, List.getElem?_map, hppi]; rfl
 rw [hqp]
 refine W.cond rfl (fun hb => absurd (of_decide_eq_true hb) hk2) (fun _ => ?_)
 apply W.sk
 apply W.sr
 apply omv; rfl; rfl
 apply old; rfl; rfl; exact .head _; rfl; rfl
 apply oop; rfl; apply Pev.idx; rfl; exact yes; rfl; exact yes; rfl; rfl; intro hcond; omega
 (((first | (with_reducible apply OL.op) | (with_reducible apply QL.op)); (exact Guard.au); rfl; rfl); (refine Pev.load_cls (v := .slice pp.2.1 pp.1.length pp.2.2) rfl (by (first | exact fun _ => rfl | exact fun h => h | (intro h; simp_all; done))) rfl (fun _ w2 hw2 => hpcell _ S w2 gE.OA hw2 hs (by exact mau) hno7 0 _ rfl)))
 apply oop; rfl; apply Pev.build; rfl; exact CellsL.agg; rfl; exact Fill.au; rfl
 apply OL.alloc; rfl; rfl; exact CellsL.agg; intro bk hbk
 apply OL.storeB; rfl; rfl; exact CellsL.agg; rfl; rfl; rfl; exact Swap.au; exact Put.au
 apply OL.nx
 apply W.seq
 apply W.regd0; decide +kernel; kernel_rfl; decide +kernel; exact fun w hw => hw.drew
 apply qmv; rfl; rfl
 apply qop; rfl; apply Pev.nil_ptr; rfl; exact yes
 apply qfa; rfl; rfl; rfl
 apply qld; rfl; rfl; exact .tail _ (.tail _ (.head _)); rfl; rfl
 apply qmv; rfl; rfl
 apply qop; rfl; apply Pev.idx; rfl; exact yes; rfl; exact yes; rfl; rfl; intro hcond; (simp only [Bool.and_eq_true, Bool.or_eq_true, Bool.not_eq_true', decide_eq_true_eq, decide_eq_false_iff_not] at *; omega)
 apply qop; rfl; apply Pev.fldA; rfl; exact yes; rfl
 revert bk
 intro b8 hb8
 have hal8 := AllLe.mem hb8 s hs
 have hno8 : ∀ k, k < s.heap.size → NotOwned [blk b8 77 [.int .i64 2, .int .i64 0, .slice pp.2.1 pp.1.length pp.2.2, .slice none 0 0, .slice none 0 0, .slice none 0 0], blk b7 3 [.int .i64 (at_ : Int)], blk bb 68 [.map (some bm), .slice gE.q gE.outs.length gE.c, .int .i64 (gE.many : Int), .bool gE.full], row s.heap.size gE.O gE.q gE.outs.length gE.c 77 6 (cat ndC gE.outs), arena s.heap.size gE.OA gE.L, X] k := fun k hk => NotOwned.blk (by omega) (hno7 k hk)
 (((first | (with_reducible apply OL.op) | (with_reducible apply QL.op)); (exact Guard.au); rfl; rfl); (refine Pev.load_cls (v := .slice (some az) r0.2.1.length r0.2.2.2) rfl (by (first | exact fun _ => rfl | exact fun h => h | (intro h; simp_all; done))) rfl (fun _ w2 hw2 => by rw [← hqz]; exact hcell0 _ S w2 gE.OA hw2 hs (by exact mau) hno8 1 _ rfl)))
 apply qld; rfl; rfl; exact .tail _ (.head _); rfl; rfl
 apply qop; rfl; apply Pev.idx; rfl; exact yes; rfl; exact yes; rfl; rfl; intro hcond; omega
 apply qop; rfl; apply Pev.fldA; rfl; exact yes; rfl
 (((first | (with_reducible apply OL.op) | (with_reducible apply QL.op)); (exact Guard.au); rfl; rfl); (refine Pev.load_cls (v := .string p.name) rfl (by (first | exact fun _ => rfl | exact fun h => h | (intro h; simp_all; done))) rfl (fun _ w2 hw2 => by rw [← hz0p]; exact hzcell _ S w2 gE.OA hw2 hs (by exact mau) hno8 1 _ rfl)))
 skip
 (((first | (with_reducible apply OL.op) | (with_reducible apply QL.op)); (exact Guard.au); rfl; rfl); (refine Pev.lookup_v (m := datV (datP qd) 0 D) (v := .pointer (some (ad.add (d0 * 3)))) (zv := .pointer none) rfl (by (first | exact fun _ => rfl | exact fun h => h | (intro h; simp_all; done))) rfl (by (first | exact fun _ => rfl | exact fun h => h | (intro h; simp_all; done))) rfl rfl (fun w2 hw2 => (mapS bm (datV (datP qd) 0 D)).stab s w2 (fun k hk => hw2.same hs hno8 k (by rw [show k = bm from hk]; exact hbml)) hbmap) (by rw [hmg]; rfl)))
 have hkd : ∀ (a : Addr) (vs : List Value), a.block < s.heap.size → CellsAt s a vs → ∀ (H : List Eng.Item) (w2 : World), Cls H S w2 → (∀ k, k < s.heap.size → NotOwned H k) → CellsAt w2 a vs := fun a vs hb hc H w2 hw2 hno => cells_stab (hw2.same hs hno _ hb) hc
 apply qas; rfl; rfl
 apply QL.nil
 with_reducible apply At.next
 apply W.seq
 apply W.sr
 apply omv; rfl; rfl
 apply oop; rfl; apply Pev.nil_ptr; rfl; exact yes
 apply oop; rfl; apply Pev.fldA; rfl; exact yes; rfl
 (((first | (with_reducible apply OL.op) | (with_reducible apply QL.op)); (exact Guard.au); rfl; rfl); (refine Pev.load_cls (v := .slice ud.2.q dcs.length ud.2.cap) rfl (by (first | exact fun _ => rfl | exact fun h => h | (intro h; simp_all; done))) rfl (fun _ w2 hw2 => hkd (ad.add (d0 * 3)) _ (by rw [add_block]; exact hadb) hcelld _ w2 hw2 hno8 2 _ rfl)))
 apply oop; rfl; apply Pev.len_slice; rfl; exact yes; rfl
 apply omv; rfl; rfl
 apply OL.nx
 apply W.block
 obtain ⟨CL, hCL⟩ : ∃ CL, consL (buildE D f) (rs.map rowP) (ps.map Prod.fst) at_ (dcs.map Prod.fst) gE.st [] [] = CL := ⟨_, rfl⟩
 have hr64 := hin.r64
 refine W.loop (G := Nat × GCs) (fun y => y.1 ≤ dcs.length ∧ consL (buildE D f) (rs.map rowP) (ps.map Prod.fst) at_ ((dcs.drop y.1).map Prod.fst) y.2.g.st y.2.ns y.2.ks = CL ∧ (∀ x ∈ gE.L, x ∈ y.2.g.L) ∧ (∀ z ∈ y.2.g.outs, NdSeen s y.2.g.L z) ∧ Mo (d + 1) (4097 + 400 * f + y.1) y.2.g.st ∧ y.2.ns.length ≤ y.1 ∧ y.2.ks.length = y.2.ns.length) (fun y => dcs.length - y.1)
  (fun y => [(0, true, .pointer (some ⟨bb, 0, none⟩)), (1, true, .slice (some a0) rs.length cap), (2, true, .slice (some ap) ps.length capp), (7, true, .pointer (some ⟨b7, 0, none⟩)), (8, true, .pointer (some ⟨b8, 0, none⟩)), (9, true, .pointer (some (ad.add (d0 * 3)))), (96, true, .slice ud.2.q dcs.length ud.2.cap), (97, true, .int .i64 (dcs.length : Int)), (98, true, .int .i64 (y.1 : Int))])
  (fun y => Cls [blk b8 77 [.int .i64 2, .int .i64 0, .slice pp.2.1 pp.1.length pp.2.2, .slice y.2.qn y.2.ns.length y.2.cn, .slice none 0 0, .slice y.2.qk y.2.ks.length y.2.ck], row s.heap.size y.2.On y.2.qn y.2.ns.length y.2.cn 9 1 (strs y.2.ns), row s.heap.size y.2.Ok y.2.qk y.2.ks.length y.2.ck 3 1 (intV y.2.ks), blk b7 3 [.int .i64 (at_ : Int)], blk bb 68 [.map (some bm), .slice y.2.g.q y.2.g.outs.length y.2.g.c, .int .i64 (y.2.g.many : Int), .bool y.2.g.full], row s.heap.size y.2.g.O y.2.g.q y.2.g.outs.length y.2.g.c 77 6 (cat ndC y.2.g.outs), arena s.heap.size y.2.g.OA y.2.g.L, X] S)
  (0, ⟨gE, fun _ => False, none, 0, [], fun _ => False, none, 0, []⟩) ⟨Nat.zero_le _, hCL, fun x hx => hx, hgE1, ⟨hmoE.out, .inl hb0⟩, Nat.le_refl _, rfl⟩ (by exact Sub.au) (fun w' hw' => ?_) ?_
 ·exact ((hw'.row_nil s.heap.size 3 1).row_nil s.heap.size 9 1).perm (List.perm_middle (l₁ := [_, _]))
 rintro ⟨i, ⟨gB, On, qn, cn, ns, Ok, qk, ck, ks⟩⟩ ⟨hi, hrest, hL1, hg1, hmo1, hnl, hkl⟩
 simp only at hi hrest hL1 hg1 hmo1 hnl hkl ⊢
 have hin1 := hinE.mono hL1
 apply W.sr
 apply obn; rfl; rfl; rfl; apply Bin.lss
 apply OL.nx
 apply W.seq
 (refine W.cnd (fun hlt => ?_) (fun hlt => ?_)) <;> (try (exfalso; first | omega | exact hlt trivial | contradiction))
 ·obtain ⟨ac, v, hqc, habc, hv, hcellc, hokc⟩ := hdcsa.get (show i < dcs.length by omega)
  have habc : ac.block < s.heap.size := habc
  have hcellc : CellsAt s (ac.add (i * 2)) [.string v.1.name, .slice v.2.1 v.1.many v.2.2] := hcellc
  have hokc : v.1.many * 56 ≤ 140737488355328 := hokc
  have hvm : v.1 ∈ consOf D d0 := by rw [hcof]; exact List.mem_map_of_mem (List.mem_of_getElem? hv)
  have hvc := hbun d0 v.1 hvm
  have hdr : (dcs.drop i).map Prod.fst = v.1 :: (dcs.drop (i + 1)).map Prod.fst := by
   have hl : i < dcs.length := by omega
   rw [List.drop_eq_getElem_cons hl]
   rw [List.getElem?_eq_getElem hl] at hv
   rw [Option.some.inj hv]
   rfl
  rw [hdr, consL] at hrest
  have hno1 : ∀ k, k < s.heap.size → NotOwned [blk b8 77 [.int .i64 2, .int .i64 0, .slice pp.2.1 pp.1.length pp.2.2, .slice qn ns.length cn, .slice none 0 0, .slice qk ks.length ck], row s.heap.size On qn ns.length cn 9 1 (strs ns), row s.heap.size Ok qk ks.length ck 3 1 (intV ks), blk b7 3 [.int .i64 (at_ : Int)], blk bb 68 [.map (some bm), .slice gB.q gB.outs.length gB.c, .int .i64 (gB.many : Int), .bool gB.full], row s.heap.size gB.O gB.q gB.outs.length gB.c 77 6 (cat ndC gB.outs), arena s.heap.size gB.OA gB.L, X] k := fun k hk => NotOwned.blk (by omega) (NotOwned.row (by omega) (NotOwned.row (by omega) (NotOwned.blk (by omega) (hnoI gB k hk))))
  rw [hqc]
  apply W.sk
  apply W.sb
  apply W.sr
  apply oop; rfl; apply Pev.idx; rfl; exact yes; rfl; exact yes; rfl; rfl; intro hcond; omega
  (((first | (with_reducible apply OL.op) | (with_reducible apply QL.op)); (exact Guard.au); rfl; rfl); (refine Pev.load_clsA (vs := [.string v.1.name, .slice v.2.1 v.1.many v.2.2]) rfl (by (first | exact fun _ => rfl | exact fun h => h | (intro h; simp_all; done))) rfl rfl (fun _ w2 hw2 => hkd (ac.add (i * 2)) _ (by rw [add_block]; exact habc) hcellc _ w2 hw2 hno1)))
  apply OL.alloc; rfl; rfl; exact CellsL.agg; intro bk hbk
  apply OL.storeB; rfl; rfl; exact CellsL.agg; rfl; rfl; rfl; exact Swap.au; exact Put.au
  apply OL.nsr
  apply oop; rfl; apply Pev.makeFunc; exact Args.au; exact Args.au
  apply OL.alloc; rfl; rfl; exact CellsL.one rfl; intro bk hbk
  apply OL.storeB; rfl; rfl; exact CellsL.one rfl; rfl; rfl; rfl; exact Swap.au; exact Put.au
  apply OL.nsr
  apply omv; rfl; rfl
  apply oop; rfl; apply Pev.makeFunc; exact Args.au; exact Args.au
  rename_i b11 hb11
  revert bk
  intro b12 hb12
  have hal11 := AllLe.mem hb11 s hs
  have hal12 := AllLe.mem hb12 s hs
  have hcl11 : ∀ w2 : World, (blk b11 86 [.string v.1.name, .slice v.2.1 v.1.many v.2.2]).holds w2 → b11 < w2.heap.size → ∀ (z : Ty × PY) w', Ext w2 w' → Calls Try.prog 51 (([] : List Value) ++ [Value.agg (tyc z.1 z.2).toArray] ++ [Value.pointer (some ⟨b11, 0, none⟩)]).toArray w' fun e w'' => e = .returned (.bool (isC v.1.name z.1)) ∧ Ext w' w'' := fun w2 hb hl z w' hx => build2_calls z b11 v.1.name w' (by
   rw [cell_heap (w := w2) (hx.block b11 hl id), blk_cell hb]
   rfl) (Nat.lt_of_lt_of_le hl hx.size)
  (((first | (with_reducible apply OL.op) | (with_reducible apply QL.op)); (exact Guard.au); rfl; rfl); (refine Pev.call (v := .bool (rs.any (hasP at_ (isC v.1.name)))) rfl (by exact Args.au) (fun _ w2 hw2 => ?_)))
  ·have h11 := hw2.item (i := blk b11 86 [.string v.1.name, .slice v.2.1 v.1.many v.2.2]) (by exact mau)
   have l11 := hw2.lt _ (show blk b11 86 [.string v.1.name, .slice v.2.1 v.1.many v.2.2] ∈ _ by exact mau) b11 rfl
   have h12 := hw2.item (i := blk b12 101 [.func (.func 51) #[] #[.pointer (some ⟨b11, 0, none⟩)]]) (by exact mau)
   have l12 := hw2.lt _ (show blk b12 101 [.func (.func 51) #[] #[.pointer (some ⟨b11, 0, none⟩)]] ∈ _ by exact mau) b12 rfl
   have h7 := hw2.item (i := blk b7 3 [.int .i64 (at_ : Int)]) (by exact mau)
   have l7 := hw2.lt _ (show blk b7 3 [.int .i64 (at_ : Int)] ∈ _ by exact mau) b7 rfl
   have hno2 : ∀ k, k < s.heap.size → NotOwned _ k := fun k hk => NotOwned.blk (b := b12) (t := 101) (c := [.func (.func 51) #[] #[.pointer (some ⟨b11, 0, none⟩)]]) (by omega) (NotOwned.blk (b := b11) (t := 86) (c := [.string v.1.name, .slice v.2.1 v.1.many v.2.2]) (by omega) (hno1 k hk))
   have hc := ContainsR_calls q cap rs 53 [] [.pointer (some ⟨b7, 0, none⟩), .pointer (some ⟨b12, 0, none⟩)] (hasP at_ (isC v.1.name)) w2 (by omega) (hin1.rsl.slAt hw2 hs (by exact mau) hno2) rfl (fun r hr w3 hx3 => build3_calls r b7 b12 at_ 51 [] [.pointer (some ⟨b11, 0, none⟩)] (isC v.1.name) w3 (by
    rw [cell_heap (w := w2) (hx3.block b7 l7 id), blk_cell h7]
    rfl) (Nat.lt_of_lt_of_le l7 hx3.size) (by
    rw [cell_heap (w := w2) (hx3.block b12 l12 id), blk_cell h12]
    rfl) (Nat.lt_of_lt_of_le l12 hx3.size) (SlAt.extS (((hin1.rel r hr).1).slAt hw2 hs (by exact mau) hno2) hx3) (by rw [hin1.plen hr]; exact hatl) (by rw [hin1.plen hr]; omega) rfl (fun z w' hx' => hcl11 w2 h11 l11 z w' (hx3.trans hx')))
   rw [hq0] at hc
   exact hc.mono (fun e w3 h => ⟨h.1, hw2.ext h.2⟩)
  apply OL.nx
  rw [any_rowP]
  by_cases hany : (rs.map rowP).any (hasC at_ v.1.name) = true
  ·rw [if_pos hany] at hrest
   rw [hany]
   refine W.cond rfl (fun _ => ?_) (fun hb => by cases hb)
   obtain ⟨rx, hrx, px, hpx, hpxf, hpxn⟩ : ∃ rx ∈ rs.map rowP, ∃ px, rx.2[at_]? = some px ∧ free px = false ∧ px.name = v.1.name := by
    obtain ⟨rx, h1, h2⟩ := List.any_eq_true.1 hany
    unfold hasC at h2
    cases hp2 : rx.2[at_]? with
    | none => rw [hp2] at h2; cases h2
    | some px =>
     rw [hp2] at h2
     simp only [Bool.and_eq_true, Bool.not_eq_true'] at h2
     exact ⟨rx, h1, px, hp2, h2.1, of_decide_eq_true h2.2⟩
   have hcon3 : ∀ r ∈ rs.map rowP, ∀ p3, r.2[at_]? = some p3 → free p3 = false → p3.kind = 3 ∧ (p3.name = v.1.name → p3.args.length = v.1.many) := fun r hr p3 hp3 hf3 => by
    have h1 : p3.kind = 3 := by rw [(hagr r hr p3 hp3 hf3).1]; exact hk3
    refine ⟨h1, fun hn => ?_⟩
    have hwf3 : Wf D p3 := hin.mat.wf r.2 (List.mem_map_of_mem (f := Prod.snd) hr) p3 (List.mem_of_getElem? hp3)
    obtain ⟨d3, c3, h4, h5, _⟩ := hwf3.cons h1
    rw [hn, hvc] at h4
    cases h4
    exact h5
   have hpxl := (hcon3 rx hrx px hpx hpxf).2 hpxn
   have hpx3 := (hcon3 rx hrx px hpx hpxf).1
   have hpxw := wt_eq px
   rw [if_neg (by rw [hpxf]; decide)] at hpxw
   have hpxb : wt px ≤ wtR (rowsOf (rs.map rowP)) := Nat.le_trans (wtA_mem (List.mem_of_getElem? hpx)) (wtR_mem (List.mem_map_of_mem (f := Prod.snd) hrx))
   have hmany : v.1.many ≤ 100000 := by omega
   apply W.sr
   apply ofa; rfl; rfl; rfl
   apply old; rfl; rfl; exact .tail _ (.tail _ (.head _)); rfl; rfl
   apply ofa; rfl; rfl; rfl
   apply old; rfl; rfl; exact .tail _ (.head _); rfl; rfl
   apply OL.buildSlice; rfl; rfl; rfl; exact Elems.au; rfl; rfl; intro bk hbk
   apply OL.append; rfl; rfl; rfl; rfl; exact Hole.au; exact .head _; exact Take.au; rfl; rfl; assumption; omega; intro O1 g1 cap1
   apply ofa; rfl; rfl; rfl
   apply OL.storeB; rfl; rfl; exact CellsL.one rfl; rfl; rfl; rfl; exact Swap.au; exact Put.au
   apply OL.nx
   revert bk
   intro b110 hb110
   have hal110 := AllLe.mem hb110 s hs
   have e3 : ns.length + 1 = (ns ++ [v.1.name]).length := by simp
   have e4 : strs ns ++ [Value.string v.1.name] = strs (ns ++ [v.1.name]) := by simp [strs]
   rw [e3, e4]
   obtain ⟨ns2, hns2⟩ : ∃ ns2, ns ++ [v.1.name] = ns2 := ⟨_, rfl⟩
   rw [hns2]
   obtain ⟨Lz, hLz⟩ : ∃ Lz : List Eng.Item, Lz = [blk b12 101 [.func (.func 51) #[] #[.pointer (some ⟨b11, 0, none⟩)]], blk b11 86 [.string v.1.name, .slice v.2.1 v.1.many v.2.2], blk b8 77 [.int .i64 2, .int .i64 0, .slice pp.2.1 pp.1.length pp.2.2, .slice (some ⟨g1, 0, none⟩) ns2.length cap1, .slice none 0 0, .slice qk ks.length ck], blk b7 3 [.int .i64 (at_ : Int)]] := ⟨_, rfl⟩
   obtain ⟨Ls, hLs⟩ : ∃ Ls : List Eng.Item, Ls = [blk b110 9 [.string v.1.name], blk b12 101 [.func (.func 51) #[] #[.pointer (some ⟨b11, 0, none⟩)]], blk b11 86 [.string v.1.name, .slice v.2.1 v.1.many v.2.2], blk b8 77 [.int .i64 2, .int .i64 0, .slice pp.2.1 pp.1.length pp.2.2, .slice (some ⟨g1, 0, none⟩) ns2.length cap1, .slice none 0 0, .slice qk ks.length ck], row s.heap.size O1 (some ⟨g1, 0, none⟩) ns2.length cap1 9 1 (strs ns2), row s.heap.size Ok qk ks.length ck 3 1 (intV ks), blk b7 3 [.int .i64 (at_ : Int)]] := ⟨_, rfl⟩
   have hsub : Lz.Sublist Ls := by
    rw [hLz, hLs]
    exact .cons _ (.cons_cons _ (.cons_cons _ (.cons_cons _ (.cons _ (.cons _ (.cons_cons _ (List.nil_sublist _)))))))
   have hnoL : ∀ g2 : BG, ∀ k, k < s.heap.size → NotOwned (Ls ++ bI s.heap.size bb bm g2 X) k := fun g2 k hk => by
    rw [hLs]
    exact NotOwned.blk (by omega) (NotOwned.blk (by omega) (NotOwned.blk (by omega) (NotOwned.blk (by omega) (NotOwned.row (by omega) (NotOwned.row (by omega) (NotOwned.blk (by omega) (hnoI g2 k hk)))))))
   refine W.regzC (C0 := Cls [blk b12 101 [.func (.func 51) #[] #[.pointer (some ⟨b11, 0, none⟩)]], blk b11 86 [.string v.1.name, .slice v.2.1 v.1.many v.2.2], blk b8 77 [.int .i64 2, .int .i64 0, .slice pp.2.1 pp.1.length pp.2.2, .slice (some ⟨g1, 0, none⟩) ns2.length cap1, .slice none 0 0, .slice qk ks.length ck], blk b7 3 [.int .i64 (at_ : Int)]] []) (by (repeat (first | exact ZSplit.nil | apply ZSplit.pure rfl | apply ZSplit.tail))) (by kernel_rfl) (by decide +kernel) (fun w hw => hw.drew) (fun w hw => hw.sub (.cons _ (.cons_cons _ (.cons_cons _ (.cons_cons _ (.cons _ (.cons _ (.cons_cons _ (List.nil_sublist _)))))))) ) ?_
   apply ZL.op rfl; exact Guard.none; rfl; rfl; apply Pev.fld; rfl; exact yes; rfl
   apply ZL.ld rfl; exact Guard.none; rfl; rfl; apply Pev.load_blk; rfl; exact yes; exact .tail _ (.tail _ (.head _)); rfl; rfl
   apply ZL.op rfl; exact Guard.none; rfl; rfl; apply Pev.move; rfl; exact yes
   apply ZL.op rfl; exact Guard.none; rfl; rfl; apply Pev.move; rfl; exact yes
   apply ZL.ld rfl; exact Guard.none; rfl; rfl; apply Pev.load_blk; rfl; exact yes; apply List.Mem.tail; exact .tail _ (.tail _ (.head _)); rfl; rfl
   apply ZL.ld rfl; exact Guard.none; rfl; rfl; apply Pev.load_blk; rfl; exact yes; exact .head _; rfl; rfl
   apply ZL.op rfl; exact Guard.none; rfl; rfl; apply Pev.fld; rfl; exact yes; rfl
   apply ZL.ld rfl; exact Guard.none; rfl; rfl; apply Pev.load_blk; rfl; exact yes; exact .tail _ (.head _); rfl; rfl
   apply ZL.op rfl; exact Guard.none; rfl; rfl; apply Pev.len_slice; rfl; exact yes; rfl
   apply ZL.op rfl; exact Guard.none; rfl; rfl; apply Pev.move; rfl; exact yes
   apply ZL.ld rfl; exact Guard.none; rfl; rfl; apply Pev.load_blk; rfl; exact yes; apply List.Mem.tail; exact .tail _ (.tail _ (.head _)); rfl; rfl
   apply ZL.op rfl; exact Guard.none; rfl; rfl; apply Pev.fld; rfl; exact yes; rfl
   apply ZL.ld rfl; exact Guard.none; rfl; rfl; apply Pev.load_blk; rfl; exact yes; exact .tail _ (.head _); rfl; rfl
   apply ZL.op rfl; exact Guard.none; rfl; rfl; apply Pev.len_slice; rfl; exact yes; rfl
   apply ZL.nilC
   apply TL.one rfl
   refine OL.callE (α := (Option Addr × Nat × List RowE) × (Nat → Prop)) (fun y => .slice y.1.1 y.1.2.2.length y.1.2.1) (fun y => y.1.2.2.map rowP = narrowM at_ (isC v.1.name) v.1.many (rs.map rowP) ∧ Seen s (gB.L ++ rowsL y.1.1 y.1.2.2) y.1.1 (cat rowC y.1.2.2) ∧ ∀ r ∈ y.1.2.2, Seen s (gB.L ++ rowsL y.1.1 y.1.2.2) r.2.2.1 (cat tyR.c r.2.1) ∧ r.2.1.length ≤ r.2.2.2 ∧ ∀ z ∈ r.2.1, TyO s (low s) z.1 z.2) (fun y => Cls (Ls ++ bI s.heap.size bb bm ⟨gB.many, gB.full, gB.outs, gB.O, gB.q, gB.c, y.2, gB.L ++ rowsL y.1.1 y.1.2.2⟩ X) S) rfl rfl (by exact Args.au) (fun w2 hw2 => ?_) ?_
   ·have h11 := hw2.item (i := blk b11 86 [.string v.1.name, .slice v.2.1 v.1.many v.2.2]) (by exact mau)
    have l11 := hw2.lt _ (show blk b11 86 [.string v.1.name, .slice v.2.1 v.1.many v.2.2] ∈ _ by exact mau) b11 rfl
    have hw3 : Cls (Ls ++ bI s.heap.size bb bm gB X) S w2 := by rw [hLs]; exact hw2
    obtain ⟨pH, hH⟩ := Hole.app (i := arena s.heap.size gB.OA gB.L) (H := bI s.heap.size bb bm gB X) (p := 2) (F := fun x => [blk bb 68 [.map (some bm), .slice gB.q gB.outs.length gB.c, .int .i64 (gB.many : Int), .bool gB.full], row s.heap.size gB.O gB.q gB.outs.length gB.c 77 6 (cat ndC gB.outs), x, X]) (.s (.s .z)) Ls
    have hc := narrow_in D s S _ _ pH gB.OA gB.L q qp cap capp at_ v.1.many (f + 1) rs ps 51 [] [.pointer (some ⟨b11, 0, none⟩)] (isC v.1.name) w2 hs hH (hnoL gB) hin1 hatl hmany rfl (hcl11 w2 h11 l11) hw3
    rw [hq0] at hc
    refine hc.mono ?_
    rintro e w3 ⟨q2, c2, rs2, OA2, k1, k2, k3, k4, k5⟩
    exact ⟨((q2, c2, rs2), OA2), k1, ⟨k2, k3, k4⟩, k5⟩
   rintro ⟨⟨q2, c2, rs2⟩, OA2⟩ ⟨hr2, hrs2, hre2⟩
   simp only at hr2 hrs2 hre2 ⊢
   have hin2 := hin1.mono (L' := gB.L ++ rowsL q2 rs2) (fun x hx => List.mem_append_left _ hx)
   apply OL.nil
   refine At.tk (fun w9 hw9 => by have := hw9.sub (hsub.trans (List.sublist_append_left _ _)); rw [hLz] at this; exact this) ?_
   apply TL.one rfl
   obtain ⟨pH, hH⟩ := Hole.app (i := arena s.heap.size OA2 (gB.L ++ rowsL q2 rs2)) (H := bI s.heap.size bb bm ⟨gB.many, gB.full, gB.outs, gB.O, gB.q, gB.c, OA2, gB.L ++ rowsL q2 rs2⟩ X) (p := 2) (F := fun x => [blk bb 68 [.map (some bm), .slice gB.q gB.outs.length gB.c, .int .i64 (gB.many : Int), .bool gB.full], row s.heap.size gB.O gB.q gB.outs.length gB.c 77 6 (cat ndC gB.outs), x, X]) (.s (.s .z)) Ls
   refine OL.callE (α := (Option Addr × Nat × List PathE) × (Nat → Prop) × List (Addr × List Value)) (fun y => .slice y.1.1 y.1.2.2.length y.1.2.1) (fun y => y.1.2.2.map Prod.fst = belowM (ps.map Prod.fst) at_ v.1.many ∧ y.1.2.2.length ≤ y.1.2.1 ∧ Seen s (gB.L ++ rowsL q2 rs2 ++ y.2.2) y.1.1 (cat pthC y.1.2.2) ∧ ∀ p ∈ y.1.2.2, Seen s (gB.L ++ rowsL q2 rs2 ++ y.2.2) p.2.1 (intV p.1)) (fun y => Cls (Ls ++ bI s.heap.size bb bm ⟨gB.many, gB.full, gB.outs, gB.O, gB.q, gB.c, y.2.1, gB.L ++ rowsL q2 rs2 ++ y.2.2⟩ X) S) rfl rfl (by exact Args.au) (fun w2 hw2 => ?_) ?_
   ·have hc := below_in D s S _ _ pH OA2 (gB.L ++ rowsL q2 rs2) q qp capp at_ v.1.many (f + 1) rs ps w2 hs hH (hnoL _) hin2 hatl hmany hw2
    rw [hqp] at hc
    refine hc.mono ?_
    rintro e w3 ⟨q3, c3, ps3, OA3, L3, k1, k2, k3, k4, k5, k6⟩
    exact ⟨((q3, c3, ps3), OA3, L3), k1, ⟨k2, k3, k4, k5⟩, k6⟩
   rintro ⟨⟨q3, c3, ps3⟩, OA3, L3⟩ ⟨hp3, hpc3, hps3, hpe3⟩
   simp only at hp3 hpc3 hps3 hpe3 ⊢
   apply OL.nil
   refine At.tk (fun w9 hw9 => by have := hw9.sub (hsub.trans (List.sublist_append_left _ _)); rw [hLz] at this; exact this) ?_
   have hLL : ∀ x ∈ gB.L, x ∈ gB.L ++ rowsL q2 rs2 ++ L3 := fun x hx => List.mem_append_left _ (List.mem_append_left _ hx)
   have hin3 : InB D s (gB.L ++ rowsL q2 rs2 ++ L3) q2 q3 c3 rs2 ps3 f := hin1.below (nm := v.1.name) (is := isC v.1.name) (many := v.1.many) hatl ⟨rx, hrx, px, hpx, by
    rw [show fieldsOf px v.1.many = px.args by unfold fieldsOf; rw [if_pos ⟨hpxf, hpx3⟩]]
    omega⟩ (fun r2 hr2 p2 hp2 hf2 hi2 _ => ⟨of_decide_eq_true hi2, (hcon3 r2 hr2 p2 hp2 hf2).2 (of_decide_eq_true hi2)⟩) (fun _ r2 hr2 p2 hp2 hf2 => (hcon3 r2 hr2 p2 hp2 hf2).1) hr2 hp3 (hrs2.mono (fun x hx => List.mem_append_left _ hx)) (fun r hr => ⟨(hre2 r hr).1.mono (fun x hx => List.mem_append_left _ hx), (hre2 r hr).2⟩) hps3 hpc3 hpe3
   rw [← hr2, ← hp3] at hrest
   apply TL.one rfl
   refine OL.callE (α := BG) (fun y => .int .i64 (buildE D f gB.st (rs2.map rowP) (ps3.map Prod.fst)).2) (fun y => y.st = (buildE D f gB.st (rs2.map rowP) (ps3.map Prod.fst)).1 ∧ (∀ x ∈ gB.L, x ∈ y.L) ∧ (∀ z ∈ y.outs, NdSeen s y.L z) ∧ Mo (d + 1) (4097 + 400 * f + i + 1) y.st) (fun y => Cls (Ls ++ bI s.heap.size bb bm y X) S) rfl rfl (by exact Args.au) (fun w2 hw2 => ?_) ?_
   ·have hp := Cls.pack hw2 (hnoL _)
    have hc := hB S (bag s.heap.size (Ls ++ [X])) bb ⟨gB.many, gB.full, gB.outs, gB.O, gB.q, gB.c, OA3, gB.L ++ rowsL q2 rs2 ++ L3⟩ q2 q3 c2 c3 (d + 1) (4097 + 400 * f + i) rs2 ps3 w2 hs hbb (fun k hk => hk.1) (fun z hz => (hg1 z hz).mono hLL) hin3 hmo1 (by omega) (by omega) hp
    refine hc.mono ?_
    rintro e w3 ⟨g', k1, k2, k3, k4, k5, k6⟩
    exact ⟨g', k1, ⟨k2, fun x hx => k3 x (hLL x hx), k4, k5⟩, Cls.unpack k6⟩
   rintro g' ⟨hst, hL', hg', hmo'⟩
   obtain ⟨kd, hkd⟩ : ∃ kd, (buildE D f gB.st (rs2.map rowP) (ps3.map Prod.fst)).2 = kd := ⟨_, rfl⟩
   rw [hkd, ← hst] at hrest
   rw [hkd]
   apply OL.nil
   refine At.tk (fun w9 hw9 => by have := hw9.sub (hsub.trans (List.sublist_append_left _ _)); rw [hLz] at this; exact this) ?_
   rw [hLs]
   unfold bI
   simp only [List.cons_append, List.nil_append]
   apply TL.one rfl
   apply OL.buildSlice; rfl; rfl; rfl; exact Elems.au; rfl; rfl; intro bk hbk
   apply OL.nil
   refine At.tk (fun w9 hw9 => hw9.sub (.cons _ (.cons _ (.cons_cons _ (.cons_cons _ (.cons_cons _ (.cons _ (.cons _ (.cons_cons _ (List.nil_sublist _)))))))))) ?_
   revert bk
   intro b130 hb130
   have hkl2 : ks.length ≤ 256 := by omega
   apply TL.one rfl
   apply OL.append; rfl; rfl; rfl; rfl; exact Hole.au; exact .head _; exact Take.au; rfl; rfl; assumption; omega; intro O1 g1 cap1
   apply OL.nil
   with_reducible apply At.tn; decide +kernel
   apply TL.one rfl
   apply ofa; rfl; rfl; rfl
   apply OL.nil
   with_reducible apply At.tn; decide +kernel
   apply TL.one rfl
   apply OL.storeB; rfl; rfl; exact CellsL.one rfl; rfl; rfl; rfl; exact Swap.au; exact Put.au
   apply OL.nil
   with_reducible apply At.tn; decide +kernel
   apply TL.nil
   with_reducible apply At.np
   with_reducible apply At.in_normal
   with_reducible apply At.next
   apply W.reg
   apply obn; rfl; rfl; rfl; apply Bin.add_in; omega
   apply omv; rfl; rfl
   apply OL.nil
   rename_i On1 gn1 cn1
   have e5 : ks.length + 1 = (ks ++ [kd]).length := by simp
   have e6 : intV ks ++ [Value.int .i64 kd] = intV (ks ++ [kd]) := by rw [intV_append]; rfl
   rw [e5, e6]
   rw [hns2] at hrest
   have hnl2 : ns2.length = ns.length + 1 := by rw [← hns2]; simp
   exact At.again (i + 1, ⟨g', On1, some ⟨gn1, 0, none⟩, cn1, ns2, O1, some ⟨g1, 0, none⟩, cap1, ks ++ [kd]⟩) ⟨by simp only; omega, hrest, fun x hx => hL' x (hL1 x hx), hg', hmo'.le (by simp only; omega), by simp only; omega, by simp only [← e5]; omega⟩ (by simp only; omega) (by exact Sub.au) (fun w' hw' => hw'.thin (.blk hb130 (.blk hb110 (.blk hb12 (.blk hb11 Thin.same)))))
  ·rw [if_neg hany] at hrest
   have hanyf : (rs.map rowP).any (hasC at_ v.1.name) = false := by simpa using hany
   rw [hanyf]
   refine W.cond rfl (fun hb => by cases hb) (fun _ => ?_)
   apply W.skip
   with_reducible apply At.in_normal
   with_reducible apply At.next
   apply W.reg
   apply obn; rfl; rfl; rfl; apply Bin.add_in; omega
   apply omv; rfl; rfl
   apply OL.nil
   exact At.again (i + 1, ⟨gB, On, qn, cn, ns, Ok, qk, ck, ks⟩) ⟨by simp only; omega, hrest, hL1, hg1, hmo1.le (by simp only; omega), by simp only; omega, hkl⟩ (by simp only; omega) (by exact Sub.au) (fun w' hw' => hw'.thin (.blk hb12 (.blk hb11 Thin.same)))
 ·obtain rfl : i = dcs.length := by omega
  rw [List.drop_eq_nil_of_le (Nat.le_refl _), List.map_nil, consL] at hrest
  have hno1 : ∀ k, k < s.heap.size → NotOwned [blk b8 77 [.int .i64 2, .int .i64 0, .slice pp.2.1 pp.1.length pp.2.2, .slice qn ns.length cn, .slice none 0 0, .slice qk ks.length ck], row s.heap.size On qn ns.length cn 9 1 (strs ns), row s.heap.size Ok qk ks.length ck 3 1 (intV ks), blk b7 3 [.int .i64 (at_ : Int)], blk bb 68 [.map (some bm), .slice gB.q gB.outs.length gB.c, .int .i64 (gB.many : Int), .bool gB.full], row s.heap.size gB.O gB.q gB.outs.length gB.c 77 6 (cat ndC gB.outs), arena s.heap.size gB.OA gB.L, X] k := fun k hk => NotOwned.blk (by omega) (NotOwned.row (by omega) (NotOwned.row (by omega) (NotOwned.blk (by omega) (hnoI gB k hk))))
  obtain ⟨RS, hRS⟩ : ∃ RS : St × Int, RS = if ns.length < dcs.length then otherM (buildE D f) gB.st (rs.map rowP) (ps.map Prod.fst) at_ else (gB.st, -1) := ⟨_, rfl⟩
  have hcE : consE (buildE D f) (dcs.map Prod.fst) gE.st (rs.map rowP) (ps.map Prod.fst) at_ = addN RS.1 ⟨2, 0, pp.1, ns, [], ks ++ [RS.2]⟩ := by
   unfold consE
   rw [hCL, ← hrest, hgp, List.length_map, hRS]
   simp only
   split <;> rfl
  rw [hcE]
  refine W.xt ?_
  with_reducible apply At.next
  apply W.sr
  apply oas; rfl; rfl
  apply OL.nx
  apply W.seq
  apply W.seq
  apply W.regd0; decide +kernel; kernel_rfl; decide +kernel; exact fun w hw => hw.drew
  apply qfa; rfl; rfl; rfl
  apply qld; rfl; rfl; exact .head _; rfl; rfl
  apply qop; rfl; apply Pev.len_slice; rfl; exact yes; rfl
  apply qmv; rfl; rfl
  apply qop; rfl; apply Pev.nil_ptr; rfl; exact yes
  apply qop; rfl; apply Pev.fldA; rfl; exact yes; rfl
  (((first | (with_reducible apply OL.op) | (with_reducible apply QL.op)); (exact Guard.au); rfl; rfl); (refine Pev.load_cls (v := .slice ud.2.q dcs.length ud.2.cap) rfl (by (first | exact fun _ => rfl | exact fun h => h | (intro h; simp_all; done))) rfl (fun _ w2 hw2 => hkd (ad.add (d0 * 3)) _ (by rw [add_block]; exact hadb) hcelld _ w2 hw2 hno1 2 _ rfl)))
  apply qop; rfl; apply Pev.len_slice; rfl; exact yes; rfl
  apply qbn; rfl; rfl; rfl; apply Bin.lss
  apply QL.nil
  with_reducible apply At.next
  obtain ⟨Ls, hLs⟩ : ∃ Ls : List Eng.Item, Ls = [blk b8 77 [.int .i64 2, .int .i64 0, .slice pp.2.1 pp.1.length pp.2.2, .slice qn ns.length cn, .slice none 0 0, .slice qk ks.length ck], row s.heap.size On qn ns.length cn 9 1 (strs ns), row s.heap.size Ok qk ks.length ck 3 1 (intV ks), blk b7 3 [.int .i64 (at_ : Int)]] := ⟨_, rfl⟩
  have hnoL : ∀ g2 : BG, ∀ k, k < s.heap.size → NotOwned (Ls ++ bI s.heap.size bb bm g2 X) k := fun g2 k hk => by
   rw [hLs]
   exact NotOwned.blk (by omega) (NotOwned.row (by omega) (NotOwned.row (by omega) (NotOwned.blk (by omega) (hnoI g2 k hk))))
  refine W.joinx (G := BG) (fun y => y.st = RS.1 ∧ (∀ x ∈ gB.L, x ∈ y.L) ∧ (∀ z ∈ y.outs, NdSeen s y.L z) ∧ Mo (d + 1) (4097 + 400 * f + dcs.length + 1) y.st) (fun y => [(0, true, .pointer (some ⟨bb, 0, none⟩)), (8, true, .pointer (some ⟨b8, 0, none⟩)), (13, true, .int .i64 RS.2)]) (fun y => Cls (Ls ++ bI s.heap.size bb bm y X) S) ?_ ?_
  ·by_cases hlo : ns.length < dcs.length
   ·rw [if_pos hlo] at hRS
    rw [hRS]
    refine W.cond rfl (fun _ => ?_) (fun hb => absurd (of_decide_eq_false hb) (by omega))
    apply W.reg
    apply omv; rfl; rfl
    apply omv; rfl; rfl
    apply omv; rfl; rfl
    apply old; rfl; rfl; apply List.Mem.tail; exact .tail _ (.tail _ (.head _)); rfl; rfl
    refine OL.callE (α := BG) (fun y => .int .i64 (otherM (buildE D f) gB.st (rs.map rowP) (ps.map Prod.fst) at_).2) (fun y => y.st = (otherM (buildE D f) gB.st (rs.map rowP) (ps.map Prod.fst) at_).1 ∧ (∀ x ∈ gB.L, x ∈ y.L) ∧ (∀ z ∈ y.outs, NdSeen s y.L z) ∧ Mo (d + 1) (4097 + 400 * f + dcs.length + 1) y.st) (fun y => Cls (Ls ++ bI s.heap.size bb bm y X) S) rfl rfl (by exact Args.au) (fun w2 hw2 => ?_) ?_
    ·have hw3 : Cls (Ls ++ bI s.heap.size bb bm gB X) S w2 := by rw [hLs]; exact hw2
     have hp := Cls.pack hw3 (hnoL _)
     have hc := other_of D s bm f hB S (bag s.heap.size (Ls ++ [X])) bb gB q qp cap capp (d + 1) (4097 + 400 * f + dcs.length) at_ rs ps w2 hs hbb (fun k hk => hk.1) hg1 hin1 hatl hr0P hmo1 (by omega) (by omega) hp
     rw [hq0, hqp] at hc
     refine hc.mono ?_
     rintro e w3 ⟨g', k1, k2, k3, k4, k5, k6⟩
     exact ⟨g', k1, ⟨k2, k3, k4, k5⟩, Cls.unpack k6⟩
    rintro g' ⟨hst, hL', hg', hmo'⟩
    apply oas; rfl; rfl
    apply OL.nil
    exact At.joinedx g' ⟨hst, hL', hg', hmo'⟩ (by exact Sub.au) (fun w' hw' => hw')
   ·rw [if_neg hlo] at hRS
    rw [hRS]
    refine W.cond rfl (fun hb => absurd (of_decide_eq_true hb) (by omega)) (fun _ => ?_)
    apply W.skip
    exact At.joinedx gB ⟨rfl, fun x hx => hx, hg1, hmo1.le (by omega)⟩ (by exact Sub.au) (fun w' hw' => by rw [hLs]; exact hw')
  rintro g' ⟨hst, hL', hg', hmo'⟩
  rw [← hst]
  obtain ⟨kd, hkd⟩ : ∃ kd, RS.2 = kd := ⟨_, rfl⟩
  rw [hkd, hLs]
  unfold bI
  simp only [List.cons_append, List.nil_append]
  have hkl2 : ks.length ≤ 256 := by omega
  apply W.sr
  apply ofa; rfl; rfl; rfl
  apply old; rfl; rfl; exact .head _; rfl; rfl
  apply omv; rfl; rfl
  apply OL.buildSlice; rfl; rfl; rfl; exact Elems.au; rfl; rfl; intro bk hbk
  apply OL.append; rfl; rfl; rfl; rfl; exact Hole.au; exact .head _; exact Take.au; rfl; rfl; assumption; omega; intro O1 g1 cap1
  apply ofa; rfl; rfl; rfl
  apply OL.storeB; rfl; rfl; exact CellsL.one rfl; rfl; rfl; rfl; exact Swap.au; exact Put.au
  apply OL.nsr
  apply omv; rfl; rfl
  apply oop; rfl; apply Pev.load_blkA; rfl; exact yes; exact .tail _ (.head _); rfl; exact Take.au
  have e5 : ks.length + 1 = (ks ++ [kd]).length := by simp
  have e6 : intV ks ++ [Value.int .i64 kd] = intV (ks ++ [kd]) := by rw [intV_append]; rfl
  rw [e5, e6]
  obtain ⟨ks2, hks2⟩ : ∃ ks2, ks ++ [kd] = ks2 := ⟨_, rfl⟩
  rw [hks2] at e5 ⊢
  revert bk
  intro b151 hb151
  refine OL.fact (φ := 0 < (strs ns).length → ∃ a, qn = some a) (fun w2 hw2 hl => ?_) (fun hqn => ?_)
  ·obtain ⟨a9, k1, _⟩ := SlAt.of_row (hw2.item (i := row s.heap.size On qn ns.length cn 9 1 (strs ns)) (by exact mau)) hl
   exact ⟨a9, k1⟩
  refine OL.fact (fun w2 hw2 => row_cap (hw2.item (i := row s.heap.size On qn ns.length cn 9 1 (strs ns)) (by exact mau))) (fun hnc => ?_)
  obtain ⟨g2, hg2⟩ : ∃ g2 : BG, g2 = ⟨g'.many, g'.full, g'.outs, g'.O, g'.q, g'.c, fun k => (g'.OA k ∨ (row s.heap.size On qn ns.length cn 9 1 (strs ns)).own k) ∨ (row s.heap.size O1 (some ⟨g1, 0, none⟩) ks2.length cap1 3 1 (intV ks2)).own k, (g'.L ++ slL qn (strs ns)) ++ slL (some ⟨g1, 0, none⟩) (intV ks2)⟩ := ⟨_, rfl⟩
  have hLg : ∀ x ∈ g'.L, x ∈ g2.L := fun x hx => by
   rw [hg2]
   exact List.mem_append_left _ (List.mem_append_left _ hx)
  obtain ⟨nd, hnd⟩ : ∃ nd : NdE, nd = (⟨2, 0, pp.1, ns, [], ks2⟩, ⟨pp.2, (qn, cn), (none, 0), (some ⟨g1, 0, none⟩, cap1)⟩) := ⟨_, rfl⟩
  have hns : NdSeen s g2.L nd := by
   rw [hnd]
   refine ⟨hpsn.mono (fun x hx => hLg x (hL' x (hL1 x hx))), Seen.new hqn (fun x hx => ?_), Seen.nil, Seen.new (fun _ => ⟨_, rfl⟩) (fun x hx => ?_), ⟨by simp only; omega, by simp only; omega, by simp, by simp only; omega⟩, fun h => by simp only at h; omega, hnc, Nat.zero_le _⟩
   ·rw [hg2]
    exact List.mem_append_left _ (List.mem_append_right _ hx)
   ·rw [hg2]
    exact List.mem_append_right _ hx
  have hst2 : g2.st = g'.st := by rw [hg2]; rfl
  have hmo2 := hmo'.add nd.1
  have hol := hmo'.out
  have hml2 := hmo'.lt (by omega)
  have hstl : g'.st.out.length = g'.outs.length := by simp [BG.st]
  rw [show (⟨2, 0, pp.1, ns, [], ks2⟩ : Pt.Nd) = nd.1 by rw [hnd], ← hst2]
  refine OL.callE (α := BG) (fun y => .int .i64 (addN g2.st nd.1).2) (fun y => y.st = (addN g2.st nd.1).1 ∧ y.L = g2.L ∧ ∀ z ∈ y.outs, NdSeen s g2.L z) (fun y => Cls (bI s.heap.size bb bm y X) S) rfl rfl (by exact Args.au) (fun w2 hw2 => ?_) ?_
  ·have h3 : Cls (bI s.heap.size bb bm g2 X) S w2 := by
    rw [hg2]
    exact (hw2.thin (.blk hb151 (.blk hb8 (.keep (.keep (.blk hb7 Thin.same)))))).rows2
   have hc := add_calls s S X bb bm g2 nd w2 hs hbb hX (by rw [hg2]; show g'.outs.length ≤ _; omega) (fun z hz => (hg' z (by rw [hg2] at hz; exact hz)).mono hLg) hns h3
   rw [hnd] at hc ⊢
   refine hc.mono ?_
   rintro e w3 ⟨g3, k1, k2, k3, k4, k5⟩
   exact ⟨g3, k1, ⟨k2, k3, k4⟩, k5⟩
  rintro g3 ⟨hst3, hL3, hg3⟩
  apply oas; rfl; rfl
  apply OL.nx
  apply W.ret
  ((with_reducible apply At.fin1); rfl; rfl; intro w' hw')
  refine ⟨g3, rfl, hst3, fun x hx => by rw [hL3]; exact hLg x (hL' x (hL1 x (by rw [hLE]; exact hx))), fun z hz => by rw [hL3]; exact hg3 z hz, ?_, hw'⟩
  rw [hst3, hst2]
  exact hmo2.le (by omega)
theorem build_all (D : List Da) (s : World) (bm : Nat) (qd : Option Addr) (ds : List (Da × DY)) (hbas : Bas D s bm qd ds) : ∀ f, BuildC D s bm f := by
 intro f
 induction f with
 | zero =>
  intro S X bb g q qp cap capp d b rs ps w hs hbb hX hg hin hmo hb1 hb2 hw
  exact absurd hin.wtf (Nat.not_lt_zero _)
 | succ f ih => exact build_of D s bm qd ds hbas f ih
end Go.Proofs.Ytleggdmhihcafaa.pt

/- The walk of patterns.check and Check. Conditions: none. -/
namespace Go.Pt
open Go.Eng Go.RowKit
theorem TT.ok.own {T : TT} {w w1 w' : World} {H : List Eng.Item} {S : List World} (hT : T.ok w1) (h : Arr datR w (low w) T.ds T.q) (hw : Cls H S w') (hs : w ∈ S) (hno : ∀ k, k < w.heap.size → NotOwned H k) (hi : mapS T.b T.m ∈ H) : T.ok w' :=
 ⟨h.at hw hs hno, hw.item hi, hT.tab, hT.uniq, hT.len⟩
section
variable {D : List Da} {R : List (List Ty)}
theorem checkE_len (h1 : smallE D R = true) (h2 : (flatN D).Nodup) {i : Nat} {r r0 : List Ty} (hr : R[i]? = some r) (h0 : R[0]? = some r0) (hn : r.length ≠ r0.length) : checkE D R = 3 := by
 cases R with
 | nil => cases h0
 | cons s t =>
  simp only [List.getElem?_cons_zero, Option.some.injEq] at h0
  subst h0
  unfold checkE
  rw [if_neg (by simp [h1]), if_neg (fun h => h h2)]
  simp only
  rw [if_pos]
  rw [List.all_eq_false]
  exact ⟨r, List.mem_of_getElem? hr, by simpa using hn⟩
theorem checkE_all {s : List Ty} {t : List (List Ty)} (hall : ∀ (j : Nat) (r r0 : List Ty), (s :: t)[j]? = some r → (s :: t)[0]? = some r0 → r.length = r0.length) : ¬ ((s :: t).all (fun r => decide (r.length = s.length)) = false) := by
 rw [Bool.not_eq_false, List.all_eq_true]
 intro r hr
 obtain ⟨j, hj⟩ := List.getElem?_of_mem hr
 exact decide_eq_true (hall j r s hj rfl)
theorem checkE_pat (h1 : smallE D R = true) (h2 : (flatN D).Nodup) (hall : ∀ (j : Nat) (r r0 : List Ty), R[j]? = some r → R[0]? = some r0 → r.length = r0.length) (hp : patR D R ≠ 0) : checkE D R = patR D R := by
 cases R with
 | nil => exact absurd rfl hp
 | cons s t =>
  unfold checkE
  rw [if_neg (by simp [h1]), if_neg (fun h => h h2)]
  simp only
  rw [if_neg (checkE_all hall), if_pos hp]
theorem checkE_agr (h1 : smallE D R = true) (h2 : (flatN D).Nodup) (hall : ∀ (j : Nat) (r r0 : List Ty), R[j]? = some r → R[0]? = some r0 → r.length = r0.length) (hp : patR D R = 0) {r0 : List Ty} (h0 : R[0]? = some r0) {n : Nat} (hn : n < r0.length) (ha : agrE D (fuelC R n) (col R n) = false) : checkE D R = 10 := by
 cases R with
 | nil => cases h0
 | cons s t =>
  simp only [List.getElem?_cons_zero, Option.some.injEq] at h0
  subst h0
  unfold checkE
  rw [if_neg (by simp [h1]), if_neg (fun h => h h2)]
  simp only
  rw [if_neg (checkE_all hall), if_neg (fun h => h hp), if_pos (ra_false hn ha)]
theorem checkE_zero (h1 : smallE D R = true) (h2 : (flatN D).Nodup) (hall : ∀ (j : Nat) (r r0 : List Ty), R[j]? = some r → R[0]? = some r0 → r.length = r0.length) (hp : patR D R = 0) (ha : ∀ r0, R[0]? = some r0 → ∀ n, n < r0.length → agrE D (fuelC R n) (col R n) = true) : checkE D R = 0 := by
 cases R with
 | nil =>
  unfold checkE
  rw [if_neg (by simp [h1]), if_neg (fun h => h h2)]
 | cons s t =>
  unfold checkE
  rw [if_neg (by simp [h1]), if_neg (fun h => h h2)]
  simp only
  rw [if_neg (checkE_all hall), if_neg (fun h => h hp), if_neg (by rw [ra_true (ha s rfl)]; decide)]
end
end Go.Pt
namespace Go.Proofs.Ytleggdmhihcafaa.pt
open Go.RowKit Go.Eng Go.Pt
set_option maxRecDepth 100000
theorem check_calls (qd : Option Addr) (cd : Nat) (ds : List (Da × DY)) (q : Option Addr) (cap : Nat) (rs : List (List Ty × PY)) (w : World) (hdl : ds.length ≤ 9223372036854775807) (hd : Arr datR w (low w) ds qd) (hlen : rs.length ≤ 9223372036854775807) (h : Arr patsR w (low w) rs q) :
  Calls Try.prog 20 [.slice qd ds.length cd, .slice q rs.length cap].toArray w fun e w' => Ext w w' ∧ if checkE (ds.map Prod.fst) (rs.map Prod.fst) = 0 then ∃ T : TT, T.ds = ds ∧ T.ok w' ∧ e = .returned (.tuple #[T.v, .int .i64 0]) else e = .returned (.tuple #[.agg #[.slice none 0 0, .map none], .int .i64 (checkE (ds.map Prod.fst) (rs.map Prod.fst))]) := by
 refine enter Try.func20 rfl Try.ntmps20 rfl (Cls.start w) ?_
 obtain ⟨D, hD⟩ : ∃ D, ds.map Prod.fst = D := ⟨_, rfl⟩
 obtain ⟨R, hR⟩ : ∃ R, rs.map Prod.fst = R := ⟨_, rfl⟩
 have hRl : R.length = rs.length := by rw [← hR, List.length_map]
 rw [hD, hR]
 (simp only [argEnv, Nat.zero_add, Nat.reduceAdd])
 apply W.sr
 apply OL.alloc; rfl; rfl; exact CellsL.agg; (intro bk hbk; simp only [AllLe, and_true] at hbk)
 apply oas; rfl; rfl
 apply OL.nx
 apply W.seq
 apply W.sr
 apply omv; rfl; rfl
 apply omv; rfl; rfl
 revert bk
 intro b4 hb4
 (((first | (with_reducible apply OL.op) | (with_reducible apply QL.op)); (exact Guard.au); rfl; rfl); (exact Pev.call (v := .bool (smallE D R)) rfl (by exact Args.au) (fun _ w2 hw2 => (small_calls qd cd ds q cap rs w2 hdl (hd.at hw2 (by exact mau) (fun k hk => by exact NotOwned.au)) hlen (h.at hw2 (by exact mau) (fun k hk => by exact NotOwned.au))).mono (fun e w3 h => ⟨by rw [h.1, hD, hR], hw2.ext h.2⟩))))
 apply oop; rfl; apply Pev.not; rfl; exact yes
 apply OL.nx
 refine W.cond rfl (fun hb => ?_) (fun hb => ?_)
 ·have hsm : smallE D R = false := by simpa using hb
  have hc : checkE D R = 2 := by unfold checkE; rw [if_pos hsm]
  apply W.sr
  apply oop; rfl; apply Pev.build; rfl; exact CellsL.agg; rfl; exact Fill.au; rfl
  apply OL.storeB; rfl; rfl; exact CellsL.agg; rfl; rfl; rfl; exact Swap.au; exact Put.au
  apply oas; rfl; rfl
  apply OL.nx
  refine W.rt ?_
  refine At.finC1 rfl rfl rfl (by exact mau) rfl rfl (fun w' hw' => ?_)
  rw [hc, if_neg (by decide)]
  exact ⟨by (exact hw'.fr), rfl⟩
 have hsm : smallE D R = true := by simpa using hb
 apply W.sk
 apply W.sr
 apply omv; rfl; rfl
 by_cases hnd : ¬ (flatN D).Nodup
 ·have hc : checkE D R = 7 := by unfold checkE; rw [if_neg (by simp [hsm]), if_pos hnd]
  refine OL.callE (α := Unit) (fun _ => .tuple #[.agg #[.slice none 0 0, .map none], .int .i64 7]) (fun _ => True) (fun _ => Cls [blk b4 55 [.slice none 0 0, .map none]] [w]) rfl rfl (by exact Args.au) (fun w2 hw2 => ?_) ?_
  ·refine (build_calls qd cd ds w2 hdl (hd.at hw2 (.head _) (fun k hk => by exact NotOwned.au))).mono (fun e w3 h => ?_)
   rw [hD, if_neg hnd] at h
   exact ⟨(), h.2, trivial, hw2.ext h.1⟩
  intro _ _
  apply omv; rfl; rfl
  apply oex; rfl; rfl; rfl
  apply oex; rfl; rfl; rfl
  apply OL.alloc; rfl; rfl; exact CellsL.agg; (intro bk hbk; simp only [AllLe, and_true] at hbk)
  apply OL.storeB; rfl; rfl; exact CellsL.agg; rfl; rfl; rfl; exact Swap.au; exact Put.au
  apply oas; rfl; rfl
  apply OL.nx
  apply W.seq
  apply W.sr
  apply omv; rfl; rfl
  apply obn; rfl; rfl; rfl; apply Bin.neq
  apply OL.nx
  refine W.cond rfl (fun _ => ?_) (fun hb => by simp at hb)
  apply W.sr
  apply oop; rfl; apply Pev.build; rfl; exact CellsL.agg; rfl; exact Fill.au; rfl
  apply omv; rfl; rfl
  apply OL.storeB; rfl; rfl; exact CellsL.agg; rfl; rfl; rfl; exact Swap.au; exact Put.au
  apply oas; rfl; rfl
  apply OL.nx
  refine W.rt ?_
  refine At.finC1 rfl rfl rfl (by exact mau) rfl rfl (fun w' hw' => ?_)
  rw [hc, if_neg (by decide)]
  exact ⟨by (exact hw'.fr), rfl⟩
 have hnd : (flatN D).Nodup := Classical.not_not.1 hnd
 refine OL.callE (α := TT) (fun T => .tuple #[.agg #[.slice T.q T.ds.length T.c, .map (some T.b)], .int .i64 0]) (fun T => T.ds = ds ∧ T.q = qd ∧ w.heap.size ≤ T.b ∧ ∃ w1, T.ok w1) (fun T => Cls [mapS T.b T.m, blk b4 55 [.slice none 0 0, .map none]] [w]) rfl rfl (by exact Args.au) (fun w2 hw2 => ?_) ?_
 ·refine (build_calls qd cd ds w2 hdl (hd.at hw2 (.head _) (fun k hk => by exact NotOwned.au))).mono (fun e w3 h => ?_)
  rw [hD, if_pos hnd] at h
  obtain ⟨hx, T, h1, h2, h3, h4, h5⟩ := h
  have hws := (hw2.kp w (.head _)).size
  refine ⟨T, h5, ⟨h1, h2, by omega, w3, h4⟩, hw2.add hx _ h4.map_ (fun k hk => ?_)⟩
  have hk' : k = T.b := hk
  subst hk'
  exact ⟨h3, mapS_lt h4.map_⟩
 rintro T ⟨hTd, hTq, hTb, w1, hT1⟩
 have hTD : T.D = D := by rw [← hD, ← hTd]; rfl
 have harr : Arr datR w (low w) T.ds T.q := by rw [hTd, hTq]; exact hd
 apply omv; rfl; rfl
 apply oex; rfl; rfl; rfl
 apply oex; rfl; rfl; rfl
 apply OL.alloc; rfl; rfl; exact CellsL.agg; (intro bk hbk; simp only [AllLe, and_true] at hbk)
 apply OL.storeB; rfl; rfl; exact CellsL.agg; rfl; rfl; rfl; exact Swap.au; exact Put.au
 apply oas; rfl; rfl
 apply OL.nx
 apply W.seq
 apply W.sr
 apply omv; rfl; rfl
 apply obn; rfl; rfl; rfl; apply Bin.neq
 apply OL.nx
 revert bk
 intro b6 hb6
 refine W.cond rfl (fun hb => by simp at hb) (fun _ => ?_)
 apply W.sk
 apply W.seq
 apply W.sr
 apply omv; rfl; rfl
 apply oop; rfl; apply Pev.len_slice; rfl; exact yes; rfl
 apply omv; rfl; rfl
 apply OL.nx
 apply W.block
 have hHH : ∀ k, k < w.heap.size → NotOwned [blk b6 55 [.slice T.q T.ds.length T.c, .map (some T.b)], mapS T.b T.m, blk b4 55 [.slice none 0 0, .map none]] k := fun k hk => NotOwned.blk (by omega) (NotOwned.mapS (by omega) (NotOwned.blk (by omega) .nil))
 have hHX : ∀ k, k < w.heap.size → NotOwned [blk b6 55 [.slice T.q T.ds.length T.c, .map (some T.b)], mapS T.b T.m, blk b4 55 [.slice T.q T.ds.length T.c, .map (some T.b)]] k := fun k hk => NotOwned.blk (by omega) (NotOwned.mapS (by omega) (NotOwned.blk (by omega) .nil))
 have hrow : ∀ i, i < rs.length → ∃ a u, q = some a ∧ a.block < w.heap.size ∧ rs[i]? = some u ∧ R[i]? = some u.1 ∧ w.cell? (a.add (i * 1)) = some (.slice u.2.1 u.1.length u.2.2) ∧ patsR.ok w (low w) u.1 u.2 := fun i hi => by
  obtain ⟨a, u, h1, h2, h3, h4, h5⟩ := h.get hi
  exact ⟨a, u, h1, h2, h3, by rw [← hR, List.getElem?_map, h3]; rfl, h4 0 _ rfl, h5⟩
 refine W.loop (G := Nat) (fun i => i ≤ rs.length ∧ ∀ (j : Nat) (r r0 : List Ty), j < i → R[j]? = some r → R[0]? = some r0 → r.length = r0.length) (fun i => rs.length - i)
  (fun i => [(1, true, .slice q rs.length cap), (4, true, .pointer (some ⟨b4, 0, none⟩)), (6, true, .pointer (some ⟨b6, 0, none⟩)), (33, true, .slice q rs.length cap), (34, true, .int .i64 (rs.length : Int)), (35, true, .int .i64 (i : Int))])
  (fun i => Cls [blk b6 55 [.slice T.q T.ds.length T.c, .map (some T.b)], mapS T.b T.m, blk b4 55 [.slice none 0 0, .map none]] [w]) 0 ⟨Nat.zero_le _, fun j r r0 hj => by omega⟩ (by exact Sub.au) (fun w' hw' => hw') ?_
 rintro i ⟨hi, hall⟩
 simp only at hi hall ⊢
 apply W.sr
 apply obn; rfl; rfl; rfl; apply Bin.lss
 apply OL.nx
 apply W.seq
 (refine W.cnd (fun hlt => ?_) (fun hlt => ?_)) <;> (try (exfalso; first | omega | exact hlt trivial | contradiction))
 ·obtain ⟨a, u, hqa, hab, hu, hRu, hcell, hok⟩ := hrow i (by omega)
  obtain ⟨a0, u0, hqa0, hab0, hu0, hRu0, hcell0, hok0⟩ := hrow 0 (by omega)
  rw [hqa] at hqa0
  obtain rfl := Option.some.inj hqa0
  rw [hqa]
  apply W.sk
  apply W.sb
  apply W.sr
  apply oop; rfl; apply Pev.idx; rfl; exact yes; rfl; exact yes; rfl; rfl; intro hcond; omega
  apply oop; rfl; apply Pev.load_kept; rfl; exact yes; exact .head _; rfl; intro hcond; assumption; intro hcond; (rw [add_block]; assumption); intro hcond; exact NotOwned.au
  apply oas; rfl; rfl
  apply OL.nsr
  apply omv; rfl; rfl
  apply oop; rfl; apply Pev.len_slice; rfl; exact yes; rfl
  apply omv; rfl; rfl
  apply oop; rfl; apply Pev.idx; rfl; exact yes; rfl; exact yes; rfl; rfl; intro hcond; (simp only [Bool.and_eq_true, Bool.or_eq_true, Bool.not_eq_true', decide_eq_true_eq, decide_eq_false_iff_not] at *; omega)
  apply oop; rfl; apply Pev.load_kept; rfl; exact yes; exact .head _; rfl; intro hcond; assumption; intro hcond; assumption; intro hcond; exact NotOwned.au
  apply oop; rfl; apply Pev.len_slice; rfl; exact yes; rfl
  apply obn; rfl; rfl; rfl; apply Bin.neq
  apply OL.nx
  refine W.cond rfl (fun hb => ?_) (fun hb => ?_)
  ·have hb : u.1.length ≠ u0.1.length := by
    simp at hb
    omega
   have hc : checkE D R = 3 := checkE_len hsm hnd hRu hRu0 hb
   apply W.sr
   apply oop; rfl; apply Pev.build; rfl; exact CellsL.agg; rfl; exact Fill.au; rfl
   apply OL.storeB; rfl; rfl; exact CellsL.agg; rfl; rfl; rfl; exact Swap.au; exact Put.au
   apply oas; rfl; rfl
   apply OL.nx
   refine W.rt ?_
   refine At.finC1 rfl rfl rfl (.tail _ (.tail _ (.head _))) rfl rfl (fun w' hw' => ?_)
   rw [hc, if_neg (by decide)]
   exact ⟨hw'.toExt (.head _) hHH, rfl⟩
  ·have hb : u.1.length = u0.1.length := by
    simp at hb
    omega
   apply W.skip
   with_reducible apply At.in_normal
   with_reducible apply At.next
   apply W.reg
   apply obn; rfl; rfl; rfl; apply Bin.add_in; omega
   apply omv; rfl; rfl
   apply OL.nil
   refine At.again (i + 1) ⟨by omega, fun j r r0 hj h1 h2 => ?_⟩ (by omega) (by exact Sub.au) (fun w' hw' => hw')
   by_cases hji : j < i
   ·exact hall j r r0 hji h1 h2
   ·obtain rfl : j = i := by omega
    rw [hRu] at h1
    rw [hRu0] at h2
    rw [← Option.some.inj h1, ← Option.some.inj h2, hb]
 obtain rfl : i = rs.length := by omega
 have hall : ∀ (j : Nat) (r r0 : List Ty), R[j]? = some r → R[0]? = some r0 → r.length = r0.length := fun j r r0 h1 h2 => hall j r r0 (by have := (List.getElem?_eq_some_iff.1 h1).1; omega) h1 h2
 refine W.xt ?_
 with_reducible apply At.next
 apply W.seq
 apply W.sr
 apply omv; rfl; rfl
 apply oop; rfl; apply Pev.len_slice; rfl; exact yes; rfl
 apply omv; rfl; rfl
 apply OL.nx
 apply W.block
 refine W.loop (G := Nat) (fun i => i ≤ rs.length ∧ patR D (R.drop i) = patR D R) (fun i => rs.length - i)
  (fun i => [(1, true, .slice q rs.length cap), (4, true, .pointer (some ⟨b4, 0, none⟩)), (6, true, .pointer (some ⟨b6, 0, none⟩)), (48, true, .slice q rs.length cap), (49, true, .int .i64 (rs.length : Int)), (50, true, .int .i64 (i : Int))])
  (fun i => Cls [blk b6 55 [.slice T.q T.ds.length T.c, .map (some T.b)], mapS T.b T.m, blk b4 55 [.slice none 0 0, .map none]] [w]) 0 ⟨Nat.zero_le _, rfl⟩ (by exact Sub.au) (fun w' hw' => hw') ?_
 rintro i ⟨hi, hrest⟩
 simp only at hi hrest ⊢
 apply W.sr
 apply obn; rfl; rfl; rfl; apply Bin.lss
 apply OL.nx
 apply W.seq
 (refine W.cnd (fun hlt => ?_) (fun hlt => ?_)) <;> (try (exfalso; first | omega | exact hlt trivial | contradiction))
 ·obtain ⟨a, u, hqa, hab, hu, hRu, hcell, hok⟩ := hrow i (by omega)
  obtain ⟨⟨pr, hpr, hpra⟩, hrc, hrl⟩ := hok
  have hprl : pr.length = u.1.length := by rw [← hpr, List.length_map]
  have hdr : R.drop i = u.1 :: R.drop (i + 1) := by
   have hl : i < R.length := by omega
   rw [List.drop_eq_getElem_cons hl]
   rw [List.getElem?_eq_getElem hl] at hRu
   rw [Option.some.inj hRu]
  rw [hdr, patR] at hrest
  rw [hqa]
  apply W.sk
  apply W.sb
  apply W.sr
  apply oop; rfl; apply Pev.idx; rfl; exact yes; rfl; exact yes; rfl; rfl; intro hcond; omega
  apply oop; rfl; apply Pev.load_kept; rfl; exact yes; exact .head _; rfl; intro hcond; assumption; intro hcond; (rw [add_block]; assumption); intro hcond; exact NotOwned.au
  apply oas; rfl; rfl
  apply OL.nsr
  apply omv; rfl; rfl
  apply oop; rfl; apply Pev.len_slice; rfl; exact yes; rfl
  apply omv; rfl; rfl
  apply OL.nx
  apply W.block
  refine W.loop (G := Nat) (fun j => j ≤ pr.length ∧ patL D ((pr.drop j).map Prod.fst) = patL D u.1) (fun j => pr.length - j)
   (fun j => [(1, true, .slice (some a) rs.length cap), (4, true, .pointer (some ⟨b4, 0, none⟩)), (6, true, .pointer (some ⟨b6, 0, none⟩)), (48, true, .slice (some a) rs.length cap), (49, true, .int .i64 (rs.length : Int)), (50, true, .int .i64 (i : Int)), (54, true, .slice u.2.1 u.1.length u.2.2), (55, true, .int .i64 (u.1.length : Int)), (56, true, .int .i64 (j : Int))])
   (fun j => Cls [blk b6 55 [.slice T.q T.ds.length T.c, .map (some T.b)], mapS T.b T.m, blk b4 55 [.slice none 0 0, .map none]] [w]) 0 ⟨Nat.zero_le _, by rw [List.drop_zero, hpr]⟩ (by exact Sub.au) (fun w' hw' => hw') ?_
  rintro j ⟨hj, hrest2⟩
  simp only at hj hrest2 ⊢
  apply W.sr
  apply obn; rfl; rfl; rfl; apply Bin.lss
  apply OL.nx
  apply W.seq
  (refine W.cnd (fun hltj => ?_) (fun hltj => ?_)) <;> (try (exfalso; first | omega | exact hltj trivial | contradiction))
  ·obtain ⟨ap, v, hqp, habp, hv, hcellp, hokp⟩ := hpra.get (show j < pr.length by omega)
   have habp : ap.block < w.heap.size := habp
   have hcellp : CellsAt w (ap.add (j * 4)) [.int .i64 v.1.kind, .string v.1.name, .int .i64 v.1.var, .slice v.2.1 v.1.args.length v.2.2] := hcellp
   have hdr2 : pr.drop j = v :: pr.drop (j + 1) := by
    have hl : j < pr.length := by omega
    rw [List.drop_eq_getElem_cons hl]
    rw [List.getElem?_eq_getElem hl] at hv
    rw [Option.some.inj hv]
   rw [hdr2, List.map_cons, patL] at hrest2
   rw [hqp]
   apply W.sk
   apply W.sb
   apply W.sr
   apply oop; rfl; apply Pev.idx; rfl; exact yes; rfl; exact yes; rfl; rfl; intro hcond; omega
   apply oop; rfl; apply Pev.load_keptA; rfl; exact yes; exact .head _; rfl; intro hcond; assumption; rfl; intro hcond; (rw [add_block]; assumption); intro hcond; exact NotOwned.au
   apply OL.alloc; rfl; rfl; exact CellsL.agg; (intro bk hbk; simp only [AllLe, and_true] at hbk)
   apply OL.storeB; rfl; rfl; exact CellsL.agg; rfl; rfl; rfl; exact Swap.au; exact Put.au
   apply OL.nsr
   apply oop; rfl; apply Pev.load_blkA; rfl; exact yes; exact .tail _ (.head _); rfl; exact Take.au
   apply oop; rfl; apply Pev.load_blkA; rfl; exact yes; exact .head _; rfl; exact Take.au
   have hH2 : ∀ k, k < w.heap.size → NotOwned (blk bk 50 [.int .i64 v.1.kind, .string v.1.name, .int .i64 v.1.var, .slice v.2.1 v.1.args.length v.2.2] :: [blk b6 55 [.slice T.q T.ds.length T.c, .map (some T.b)], mapS T.b T.m, blk b4 55 [.slice none 0 0, .map none]]) k := fun k hk => NotOwned.blk (by omega) (hHH k hk)
   (((first | (with_reducible apply OL.op) | (with_reducible apply QL.op)); (exact Guard.au); rfl; rfl); (exact Pev.call (v := .int .i64 (patE D v.1)) rfl (by exact Args.au) (fun _ w2 hw2 => (pattern_calls T (v.1.sz + 1) v.1 v.2 w2 (Nat.lt_succ_self _) (hT1.own harr hw2 (.head _) hH2 (.tail _ (.tail _ (.head _)))) (Rel.ext (R := tyR) hokp (hw2.toExt (.head _) hH2))).mono (fun e w3 h => ⟨by rw [h.1, hTD], hw2.ext h.2⟩))))
   apply oas; rfl; rfl
   apply OL.nsr
   apply omv; rfl; rfl
   apply obn; rfl; rfl; rfl; apply Bin.neq
   apply OL.nx
   by_cases h0 : patE D v.1 = 0
   ·rw [if_pos h0] at hrest2
    refine W.cond rfl (fun hb => by simp [h0] at hb) (fun _ => ?_)
    apply W.skip
    with_reducible apply At.in_normal
    with_reducible apply At.next
    apply W.reg
    apply obn; rfl; rfl; rfl; apply Bin.add_in; omega
    apply omv; rfl; rfl
    apply OL.nil
    exact At.again (j + 1) ⟨by omega, hrest2⟩ (by omega) (by exact Sub.au) (fun w' hw' => hw'.thin (by exact Thin.au))
   ·rw [if_neg h0] at hrest2
    have hpR : patR D R = patE D v.1 := by
     rw [← hrest, if_neg (by rw [← hrest2]; exact h0), hrest2]
    have hc : checkE D R = patE D v.1 := by rw [checkE_pat hsm hnd hall (by rw [hpR]; exact h0), hpR]
    refine W.cond rfl (fun _ => ?_) (fun hb => by simp at hb; omega)
    apply W.sr
    apply oop; rfl; apply Pev.build; rfl; exact CellsL.agg; rfl; exact Fill.au; rfl
    apply omv; rfl; rfl
    apply OL.storeB; rfl; rfl; exact CellsL.agg; rfl; rfl; rfl; exact Swap.au; exact Put.au
    apply oas; rfl; rfl
    apply OL.nx
    refine W.rt ?_
    refine At.finC1 rfl rfl rfl (.tail _ (.tail _ (.tail _ (.head _)))) rfl rfl (fun w' hw' => ?_)
    rw [hc, if_neg h0]
    exact ⟨hw'.toExt (.head _) hH2, rfl⟩
  ·rw [List.drop_eq_nil_of_le (by omega)] at hrest2
   rw [if_pos (by rw [← hrest2]; rfl)] at hrest
   refine W.xt ?_
   with_reducible apply At.in_normal
   with_reducible apply At.next
   apply W.reg
   apply obn; rfl; rfl; rfl; apply Bin.add_in; omega
   apply omv; rfl; rfl
   apply OL.nil
   exact At.again (i + 1) ⟨by omega, hrest⟩ (by omega) (by exact Sub.au) (fun w' hw' => hw')
 obtain rfl : i = rs.length := by omega
 rw [List.drop_eq_nil_of_le (by omega), patR] at hrest
 have hpR := hrest.symm
 refine W.xt ?_
 with_reducible apply At.next
 apply W.seq
 apply W.sr
 apply oas; rfl; rfl
 apply OL.nx
 apply W.block
 by_cases hr0 : rs.length = 0
 ·have hc : checkE D R = 0 := checkE_zero hsm hnd hall hpR (fun r0 h0 => by have := (List.getElem?_eq_some_iff.1 h0).1; omega)
  refine W.loop (G := Unit) (fun _ => True) (fun _ => 0)
   (fun _ => [(1, true, .slice q rs.length cap), (4, true, .pointer (some ⟨b4, 0, none⟩)), (6, true, .pointer (some ⟨b6, 0, none⟩)), (15, true, .int .i64 0)])
   (fun _ => Cls [blk b6 55 [.slice T.q T.ds.length T.c, .map (some T.b)], mapS T.b T.m, blk b4 55 [.slice none 0 0, .map none]] [w]) () trivial (by exact Sub.au) (fun w' hw' => hw') ?_
  intro _ _
  simp only [hr0]
  apply W.seq
  apply W.sr
  apply omv; rfl; rfl
  apply oop; rfl; apply Pev.len_slice; rfl; exact yes; rfl
  apply obn; rfl; rfl; rfl; apply Bin.gtr
  apply omv; rfl; rfl
  apply oy; rfl; rfl; rfl; apply Pev.move; rfl; exact yes
  apply oy; rfl; rfl; rfl; apply Pev.move; rfl; exact yes
  apply OL.gateOff; exact Guard.yes rfl rfl; rfl; rfl
  apply OL.gateOff; exact Guard.yes rfl rfl; rfl; rfl
  apply OL.gateOff; exact Guard.yes rfl rfl; rfl; rfl
  apply OL.gateOff; exact Guard.yes rfl rfl; rfl; rfl
  apply oop; rfl; apply Pev.pick_off; rfl; exact yes; (intro hcond; rfl); rfl; exact yes
  apply OL.nx
  refine W.cond rfl (fun hb => by cases hb) (fun _ => ?_)
  refine W.xt ?_
  with_reducible apply At.next
  apply W.sr
  apply oop; rfl; apply Pev.load_blkA; rfl; exact yes; exact .head _; rfl; exact Take.au
  apply OL.storeB; rfl; rfl; exact CellsL.agg; rfl; rfl; rfl; exact Swap.au; exact Put.au
  apply oas; rfl; rfl
  apply OL.nx
  apply W.ret
  refine At.finC1 rfl rfl rfl (.tail _ (.tail _ (.head _))) rfl rfl (fun w' hw' => ?_)
  rw [hc, if_pos rfl]
  have hx := hw'.toExt (s := w) (.head _) hHX
  exact ⟨hx, T, hTd, hT1.own harr hw' (.head _) hHX (.tail _ (.head _)), rfl⟩
 have hr64 : rs.length ≤ 64 := by
  unfold smallE at hsm
  rw [Bool.and_eq_true, Bool.and_eq_true, decide_eq_true_eq] at hsm
  omega
 obtain ⟨a, u0, hqa, hab, hu0, hRu0, hcell0, hok0⟩ := hrow 0 (by omega)
 have hl0 : u0.1.length ≤ 9223372036854775807 := hok0.2.2
 have hwR : ∀ r ∈ R, ∀ p ∈ r, Wf D p := patR_wf D R hpR
 refine W.loop (G := Nat) (fun n => n ≤ u0.1.length ∧ ∀ m, m < n → agrE D (fuelC R m) (col R m) = true) (fun n => u0.1.length - n)
  (fun n => [(1, true, .slice q rs.length cap), (4, true, .pointer (some ⟨b4, 0, none⟩)), (6, true, .pointer (some ⟨b6, 0, none⟩)), (15, true, .int .i64 (n : Int))])
  (fun n => Cls [blk b6 55 [.slice T.q T.ds.length T.c, .map (some T.b)], mapS T.b T.m, blk b4 55 [.slice none 0 0, .map none]] [w]) 0 ⟨Nat.zero_le _, fun m hm => by omega⟩ (by exact Sub.au) (fun w' hw' => hw') ?_
 rintro n ⟨hn, hag⟩
 simp only at hn hag ⊢
 have hpos : decide ((0 : Int) < (rs.length : Int)) = true := by simp; omega
 rw [hqa]
 apply W.seq
 apply W.sr
 apply omv; rfl; rfl
 apply oop; rfl; apply Pev.len_slice; rfl; exact yes; rfl
 apply obn; rfl; rfl; rfl; apply Bin.gtr
 apply omv; rfl; rfl
 apply oy; rfl; rfl; rfl; apply Pev.move; rfl; exact yes
 apply oy; rfl; rfl; rfl; apply Pev.move; rfl; exact yes
 apply oy; rfl; rfl; rfl; apply Pev.idx; rfl; exact fun h => h; rfl; exact yes; rfl; rfl; intro hcond; (simp only [Bool.and_eq_true, Bool.or_eq_true, Bool.not_eq_true', decide_eq_true_eq, decide_eq_false_iff_not] at *; omega)
 apply oy; rfl; rfl; rfl; apply Pev.load_kept; rfl; exact fun h => h; exact .head _; rfl; intro hcond; assumption; intro hcond; assumption; intro hcond; exact NotOwned.au
 apply oy; rfl; rfl; rfl; apply Pev.len_slice; rfl; exact fun h => h; rfl
 apply oy; rfl; rfl; rfl; apply Pev.bin; rfl; exact fun h => h; rfl; exact fun h => h; intro hcond; apply Bin.lss
 apply oop; rfl; apply Pev.pick_and; rfl; exact yes; rfl; exact fun h => h
 apply OL.nx
 rw [hpos, Bool.true_and]
 by_cases hnl : n < u0.1.length
 ·refine W.cond rfl (fun _ => ?_) (fun hb => by simp at hb; omega)
  apply W.sk
  apply W.sb
  apply W.sr
  apply oas; rfl; rfl
  apply OL.nx
  apply W.seq
  apply W.sr
  apply omv; rfl; rfl
  apply oop; rfl; apply Pev.len_slice; rfl; exact yes; rfl
  apply omv; rfl; rfl
  apply OL.nx
  apply W.block
  refine W.loop (G := Nat × GT) (fun g => g.1 ≤ rs.length ∧ g.2.ps.map Prod.fst = col (R.take g.1) n ∧ g.2.ps.length ≤ g.1 ∧ ∀ p ∈ g.2.ps, TyO w (low w) p.1 p.2) (fun g => rs.length - g.1)
   (fun g => [(1, true, .slice (some a) rs.length cap), (4, true, .pointer (some ⟨b4, 0, none⟩)), (6, true, .pointer (some ⟨b6, 0, none⟩)), (15, true, .int .i64 (n : Int)), (16, true, .slice g.2.q g.2.ps.length g.2.c), (82, true, .slice (some a) rs.length cap), (83, true, .int .i64 (rs.length : Int)), (84, true, .int .i64 (g.1 : Int))])
   (fun g => Cls (row w.heap.size g.2.O g.2.q g.2.ps.length g.2.c 50 4 (cat tyR.c g.2.ps) :: [blk b6 55 [.slice T.q T.ds.length T.c, .map (some T.b)], mapS T.b T.m, blk b4 55 [.slice none 0 0, .map none]]) [w]) (0, ⟨fun _ => False, none, 0, []⟩) ⟨Nat.zero_le _, rfl, Nat.le_refl _, fun p hp => by cases hp⟩ (by exact Sub.au) (fun w' hw' => hw'.row_nil w.heap.size 50 4) ?_
  rintro ⟨j, O, q2, c2, bs⟩ ⟨hj, hbs, hbl, hbok⟩
  simp only at hj hbs hbl hbok ⊢
  apply W.sr
  apply obn; rfl; rfl; rfl; apply Bin.lss
  apply OL.nx
  apply W.seq
  (refine W.cnd (fun hltj => ?_) (fun hltj => ?_)) <;> (try (exfalso; first | omega | exact hltj trivial | contradiction))
  ·obtain ⟨aj, u, hqj, habj, hu, hRu, hcell, hok⟩ := hrow j (by omega)
   rw [hqa] at hqj
   obtain rfl := Option.some.inj hqj
   obtain ⟨⟨pr, hpr, hpra⟩, hrc, hrl⟩ := hok
   have hprl : pr.length = u.1.length := by rw [← hpr, List.length_map]
   have hul := hall j u.1 u0.1 hRu hRu0
   obtain ⟨az, z, hqz, habz, hz, hcellz, hokz⟩ := hpra.get (show n < pr.length by omega)
   have habz : az.block < w.heap.size := habz
   have hcellz : CellsAt w (az.add (n * 4)) [.int .i64 z.1.kind, .string z.1.name, .int .i64 z.1.var, .slice z.2.1 z.1.args.length z.2.2] := hcellz
   have hcol : col (R.take (j + 1)) n = col (R.take j) n ++ [z.1] := by
    rw [List.take_add_one, hRu, Option.toList_some]
    unfold col
    rw [List.filterMap_append]
    congr 1
    simp only [List.filterMap_cons, List.filterMap_nil]
    rw [← hpr, List.getElem?_map, hz]
    rfl
   rw [← hbs] at hcol
   have e1 : bs.length + 1 = (bs ++ [z]).length := by simp
   have e2 : cat tyR.c bs ++ [Value.int .i64 z.1.kind, .string z.1.name, .int .i64 z.1.var, .slice z.2.1 z.1.args.length z.2.2] = cat tyR.c (bs ++ [z]) := by rw [cat_append]; rfl
   rw [hqz] at hcell
   apply W.sk
   apply W.sb
   apply W.sr
   apply oop; rfl; apply Pev.idx; rfl; exact yes; rfl; exact yes; rfl; rfl; intro hcond; omega
   apply oop; rfl; apply Pev.load_kept; rfl; exact yes; exact .head _; rfl; intro hcond; assumption; intro hcond; (rw [add_block]; assumption); intro hcond; exact NotOwned.au
   apply oas; rfl; rfl
   apply OL.nx
   apply W.reg
   apply omv; rfl; rfl
   apply omv; rfl; rfl
   apply omv; rfl; rfl
   apply oop; rfl; apply Pev.idx; rfl; exact yes; rfl; exact yes; rfl; rfl; intro hcond; omega
   apply oop; rfl; apply Pev.load_keptA; rfl; exact yes; exact .head _; rfl; intro hcond; assumption; rfl; intro hcond; (rw [add_block]; assumption); intro hcond; exact NotOwned.au
   apply OL.buildSlice; rfl; rfl; rfl; exact Elems.au; rfl; rfl; (intro bk hbk; simp only [AllLe, and_true] at hbk)
   apply OL.append; rfl; rfl; rfl; rfl; exact Hole.au; exact .head _; exact Take.au; rfl; rfl; exact ⟨_, .head _, Nat.le_refl _⟩; omega; intro O1 g1 cap1
   apply oas; rfl; rfl
   apply OL.nil
   with_reducible apply At.in_normal
   with_reducible apply At.next
   apply W.reg
   apply obn; rfl; rfl; rfl; apply Bin.add_in; omega
   apply omv; rfl; rfl
   apply OL.nil
   rw [e1, e2]
   exact At.again (j + 1, ⟨O1, some ⟨g1, 0, none⟩, cap1, bs ++ [z]⟩) ⟨by simp only; omega, by simp only [hcol]; simp, by simp only [← e1]; omega, fun p hp => (List.mem_append.1 hp).elim (hbok p) (fun hp => by rw [List.mem_singleton] at hp; rw [hp]; exact hokz)⟩ (by simp only; omega) (by exact Sub.au) (fun w' hw' => hw'.thin (by exact Thin.au))
  ·obtain rfl : j = rs.length := by omega
   rw [show R.take rs.length = R from List.take_of_length_le (by omega)] at hbs
   have hwb : ∀ p ∈ bs, Wf T.D p.1 := fun p hp => by
    rw [hTD]
    have g1 : p.1 ∈ col R n := by rw [← hbs]; exact List.mem_map_of_mem hp
    obtain ⟨r, k1, k2⟩ := col_mem.1 g1
    exact hwR r k1 p.1 (List.mem_of_getElem? k2)
   have hH3 : ∀ k, k < w.heap.size → NotOwned (row w.heap.size O q2 bs.length c2 50 4 (cat tyR.c bs) :: [blk b6 55 [.slice T.q T.ds.length T.c, .map (some T.b)], mapS T.b T.m, blk b4 55 [.slice none 0 0, .map none]]) k := fun k hk => NotOwned.row (by omega) (hHH k hk)
   refine W.xt ?_
   with_reducible apply At.next
   apply W.sr
   apply oop; rfl; apply Pev.load_blkA; rfl; exact yes; exact .tail _ (.head _); rfl; exact Take.au
   apply omv; rfl; rfl
   (((first | (with_reducible apply OL.op) | (with_reducible apply QL.op)); (exact Guard.au); rfl; rfl); (exact Pev.call (v := .bool (agrE D (fuelC R n) (col R n))) rfl (by exact Args.au) (fun _ w2 hw2 => (agree_calls T (fuelC R n) q2 c2 bs w2 (by rw [hbs]; exact Nat.lt_succ_self _) (by omega) (hT1.own harr hw2 (.head _) hH3 (.tail _ (.tail _ (.head _)))) (Arr.of_row (hw2.item (.head _)) hbok (hw2.toExt (s := w) (.head _) hH3)) hwb).mono (fun e w3 h => ⟨by rw [h.1, hTD, hbs], hw2.ext h.2⟩))))
   apply oop; rfl; apply Pev.not; rfl; exact yes
   apply OL.nx
   refine W.cond rfl (fun hb => ?_) (fun hb => ?_)
   ·have hb : agrE D (fuelC R n) (col R n) = false := by simpa using hb
    have hc : checkE D R = 10 := checkE_agr hsm hnd hall hpR hRu0 hnl hb
    apply W.sr
    apply oop; rfl; apply Pev.build; rfl; exact CellsL.agg; rfl; exact Fill.au; rfl
    apply OL.storeB; rfl; rfl; exact CellsL.agg; rfl; rfl; rfl; exact Swap.au; exact Put.au
    apply oas; rfl; rfl
    apply OL.nx
    refine W.rt ?_
    refine At.finC1 rfl rfl rfl (.tail _ (.tail _ (.tail _ (.head _)))) rfl rfl (fun w' hw' => ?_)
    rw [hc, if_neg (by decide)]
    exact ⟨hw'.toExt (.head _) hH3, rfl⟩
   ·have hb : agrE D (fuelC R n) (col R n) = true := by simpa using hb
    apply W.skip
    with_reducible apply At.in_normal
    with_reducible apply At.next
    apply W.reg
    apply omv; rfl; rfl
    apply obn; rfl; rfl; rfl; apply Bin.add_in; omega
    apply oas; rfl; rfl
    apply OL.nil
    refine At.again (n + 1) ⟨by omega, fun m hm => ?_⟩ (by omega) (by exact Sub.au) (fun w' hw' => hw'.thin (.row (by simp only [AllLe, and_true]; omega) Thin.same))
    by_cases hmn : m < n
    ·exact hag m hmn
    ·rw [show m = n by omega]; exact hb
 ·have hc : checkE D R = 0 := checkE_zero hsm hnd hall hpR (fun r0 h0 m hm => by
   rw [hRu0] at h0
   rw [← Option.some.inj h0] at hm
   exact hag m (by omega))
  refine W.cond rfl (fun hb => by simp at hb; omega) (fun _ => ?_)
  refine W.xt ?_
  with_reducible apply At.next
  apply W.sr
  apply oop; rfl; apply Pev.load_blkA; rfl; exact yes; exact .head _; rfl; exact Take.au
  apply OL.storeB; rfl; rfl; exact CellsL.agg; rfl; rfl; rfl; exact Swap.au; exact Put.au
  apply oas; rfl; rfl
  apply OL.nx
  apply W.ret
  refine At.finC1 rfl rfl rfl (.tail _ (.tail _ (.head _))) rfl rfl (fun w' hw' => ?_)
  rw [hc, if_pos rfl]
  have hx := hw'.toExt (s := w) (.head _) hHX
  exact ⟨hx, T, hTd, hT1.own harr hw' (.head _) hHX (.tail _ (.head _)), rfl⟩
end Go.Proofs.Ytleggdmhihcafaa.pt

/- Plain: the steps of useful. No program in sight. No condition. -/
namespace Go.Pt
open Go.Eng
variable {D : List Da} {rows : List (List Ty)} {p : Ty} {t : List Ty}
theorem use_con (hU : Uniq D) (hM1 : Mat D ((p :: t) :: rows) (t.length + 1)) (hk3 : p.kind = 3) {d : Nat} {c : Co} (e1 : conAt D p.name = some (d, c)) : Mat D ((p.args ++ t) :: narrow rows p.name c.many) (p.args ++ t).length ∧ wtR (narrow rows p.name c.many) + wtA (p.args ++ t) + (p.args ++ t).length + 1 ≤ wtR rows + (wt p + wtA t) + (t.length + 1) := by
 have hwp : Wf D p := hM1.wf _ (.head _) p (.head _)
 obtain ⟨d', c', g1, e2, e3⟩ := hwp.cons hk3
 rw [e1] at g1
 cases g1
 have hnm := (conAt_mem e1).2
 have hcc : conAt D c.name = some (d, c) := by rw [hnm]; exact e1
 have hpf : p ∈ first ((p :: t) :: rows) := first_mem.2 ⟨t, .head _, free_no (.inr hk3)⟩
 have h33 : ∀ q ∈ first ((p :: t) :: rows), q.kind = 3 := fun q hq => by rw [(hM1.kinds hq hpf).1, hk3]
 have hnr : narrow ((p :: t) :: rows) c.name c.many = (p.args ++ t) :: narrow rows c.name c.many := by
  unfold narrow
  rw [List.filterMap_cons]
  simp [free_no (.inr hk3), hnm]
 have hMn := hM1.narrow hcc h33
 have hll : (p.args ++ t).length = c.many + t.length := by rw [List.length_append, e2]
 rw [hnr, ← hll, hnm] at hMn
 refine ⟨hMn, ?_⟩
 have g1 := wtR_narrow p.name c.many rows
 have g2 := wt_eq p
 rw [if_neg (by rw [free_no (.inr hk3)]; decide)] at g2
 rw [wtA_app, hll]
 omega
theorem use_int (hM1 : Mat D ((p :: t) :: rows) (t.length + 1)) (n : Int) : Mat D (t :: leftI rows n) t.length ∧ wtR (leftI rows n) + wtA t + t.length + 1 ≤ wtR rows + (wt p + wtA t) + (t.length + 1) := ⟨hM1.tail (fun s hs => by
 rcases List.mem_cons.1 hs with rfl | hs
 ·exact ⟨p, .head _⟩
 ·obtain ⟨q, hq⟩ := leftI_tail n s hs
  exact ⟨q, .tail _ hq⟩), by have := wtR_leftI n rows; omega⟩
theorem use_rest (hM1 : Mat D ((p :: t) :: rows) (t.length + 1)) : Mat D (t :: rest rows) t.length ∧ wtR (rest rows) + wtA t + t.length + 1 ≤ wtR rows + (wt p + wtA t) + (t.length + 1) := ⟨hM1.tail (fun s hs => by
 rcases List.mem_cons.1 hs with rfl | hs
 ·exact ⟨p, .head _⟩
 ·obtain ⟨q, hq⟩ := rest_tail s hs
  exact ⟨q, .tail _ hq⟩), by have := wtR_rest rows; omega⟩
theorem use_any (hU : Uniq D) (hM1 : Mat D ((p :: t) :: rows) (t.length + 1)) (hpf : free p = true) (ha : absent D (first rows) = none) {d : Nat} (hall : ∀ q ∈ first rows, q.kind = 3 ∧ dOf D q.name = some d) (hcon : ∀ c ∈ consOf D d, ∃ q ∈ first rows, q.name = c.name) {x : Ty} (hx : x ∈ first rows) {c : Co} (hc : c ∈ consOf D d) : Mat D ((anys c.many ++ t) :: narrow rows c.name c.many) (anys c.many ++ t).length ∧ wtR (narrow rows c.name c.many) + wtA (anys c.many ++ t) + (anys c.many ++ t).length + 1 ≤ wtR rows + (wt p + wtA t) + (t.length + 1) := by
 have hMr : Mat D rows (t.length + 1) := hM1.mono (fun r hr => .tail _ hr)
 have hx1 : x ∈ first ((p :: t) :: rows) := by
  obtain ⟨s, g1, g2⟩ := first_mem.1 hx
  exact first_mem.2 ⟨s, .tail _ g1, g2⟩
 have h33 : ∀ q ∈ first ((p :: t) :: rows), q.kind = 3 := fun q hq => by rw [(hM1.kinds hq hx1).1, (hall x hx).1]
 have hnr : narrow ((p :: t) :: rows) c.name c.many = (anys c.many ++ t) :: narrow rows c.name c.many := by
  unfold narrow
  rw [List.filterMap_cons]
  simp [hpf]
 have hMn := hM1.narrow (hU d c hc) h33
 have hll : (anys c.many ++ t).length = c.many + t.length := by rw [List.length_append, anys_len]
 rw [hnr, ← hll] at hMn
 refine ⟨hMn, ?_⟩
 have g1 := occurs hU hMr hall hcon hc
 rw [wtA_app, wtA_anys, hll]
 omega
end Go.Pt

/- The walk of patterns' useful. Conditions: none. -/
namespace Go.Proofs.Ytleggdmhihcafaa.pt
open Go.RowKit Go.Eng Go.Pt
set_option maxRecDepth 100000
theorem leftI_step {rs : List (List Ty × PY)} {i : Nat} {p : Ty} {t : List Ty} {y : PY} (n : Int) (h : rs[i]? = some (p :: t, y)) : leftI ((rs.take (i + 1)).map Prod.fst) n = leftI ((rs.take i).map Prod.fst) n ++ if (free p || decide (p.var = n)) then [t] else [] := by
 rw [List.take_add_one, h]
 unfold leftI
 simp only [Option.toList_some, List.map_append, List.filterMap_append, List.map_cons, List.map_nil]
 by_cases hf : (free p || decide (p.var = n)) = true
 ·simp only [List.filterMap_cons, List.filterMap_nil, hf, if_true]
 ·simp only [List.filterMap_cons, List.filterMap_nil, hf, if_false, Bool.false_eq_true]
theorem useful_calls (T : TT) : ∀ (f : Nat) (q : Option Addr) (cap : Nat) (rs : List (List Ty × PY)) (qr : Option Addr) (capr : Nat) (ps : List (Ty × PY)) (w : World), T.ok w → rs.length ≤ 100000 → Arr patsR w (low w) rs q → Arr tyR w (low w) ps qr → ps.length ≤ capr → Mat T.D (ps.map Prod.fst :: rs.map Prod.fst) ps.length → wtR (rs.map Prod.fst) + wtA (ps.map Prod.fst) + ps.length < f → wtR (rs.map Prod.fst) + wtA (ps.map Prod.fst) + ps.length ≤ 100000 →
  Calls Try.prog 24 [T.v, .slice q rs.length cap, .slice qr ps.length capr].toArray w fun e w' => e = .returned (.bool (usefulE T.D f (rs.map Prod.fst) (ps.map Prod.fst))) ∧ Ext w w'
 | 0, q, cap, rs, qr, capr, ps, w, hT, hlen, h, hr, hcr, hM, hf, hB => by omega
 | f + 1, q, cap, rs, qr, capr, [], w, hT, hlen, h, hr, hcr, hM, hf, hB => by
  refine enter Try.func24 rfl Try.ntmps24 rfl (Cls.start w) ?_
  unfold TT.v
  (simp only [argEnv, Nat.zero_add, Nat.reduceAdd])
  apply W.sr
  apply OL.box; rfl; rfl; exact CellsL.agg; (intro bk hbk; simp only [AllLe, and_true] at hbk)
  apply oas; rfl; rfl
  apply OL.nx
  apply W.seq
  apply W.sr
  apply omv; rfl; rfl
  apply oop; rfl; apply Pev.len_slice; rfl; exact yes; rfl
  apply obn; rfl; rfl; rfl; apply Bin.eql
  apply OL.nx
  refine W.cond rfl (fun _ => ?_) (fun hb => by simp at hb)
  apply W.sr
  apply omv; rfl; rfl
  apply oop; rfl; apply Pev.len_slice; rfl; exact yes; rfl
  apply obn; rfl; rfl; rfl; apply Bin.eql
  apply oas; rfl; rfl
  apply OL.nx
  refine W.rt ?_
  ((with_reducible apply At.fin1); rfl; rfl; intro w' hw')
  exact ⟨by simp [usefulE], by (exact hw'.fr)⟩
 | f + 1, q, cap, rs, qr, capr, z :: pt, w, hT, hlen, h, hr, hcr, hM, hf, hB => by
  have ih := useful_calls T f
  obtain ⟨rows, hrows⟩ : ∃ rows, rs.map Prod.fst = rows := ⟨_, rfl⟩
  obtain ⟨trow, hrow⟩ : ∃ trow, pt.map Prod.fst = trow := ⟨_, rfl⟩
  have hrowl : trow.length = pt.length := by rw [← hrow, List.length_map]
  rw [List.map_cons, hrows, hrow] at hM hf hB ⊢
  have hM1 : Mat T.D ((z.1 :: trow) :: rows) (trow.length + 1) := by rw [hrowl]; exact hM
  have hMr : Mat T.D rows (trow.length + 1) := hM1.mono (fun r hr => .tail _ hr)
  have hne : ∀ r ∈ rs, r.1 ≠ [] := Mat.ne (by rw [hrows]; exact hMr)
  have hwp : Wf T.D z.1 := hM1.wf _ (.head _) z.1 (.head _)
  rw [List.length_cons] at hf hB
  simp only [wtA] at hf hB
  have hnsz : ∀ nm, ∀ r ∈ rs, ∀ p t, r.1 = p :: t → t.length ≤ 10000000 ∧ (free p = false → p.name = nm → p.args.length ≤ 10000000) := fun nm r hr p t he => by
   obtain ⟨g1, g2⟩ := narrow_sz (rs := rs) (cols := trow.length) (B := 100000) (by rw [hrows]; exact hMr) (by rw [hrows]; omega) nm r hr p t he
   exact ⟨by omega, fun a b => by have := g2 a b; omega⟩
  obtain ⟨ar, z2, hqr, habr, hz2, hcellr, hokr⟩ := hr.get (i := 0) (Nat.succ_pos _)
  simp only [List.getElem?_cons_zero, Option.some.injEq] at hz2
  subst hz2
  have habr : ar.block < w.heap.size := habr
  have hcellr : CellsAt w (ar.add (0 * 4)) [.int .i64 z.1.kind, .string z.1.name, .int .i64 z.1.var, .slice z.2.1 z.1.args.length z.2.2] := hcellr
  rw [hqr] at hr ⊢
  have hdrop := Arr.drop hr (cap := capr) hcr 1
  obtain ⟨pz, hpz, hpza, hpzl, _⟩ := pat_kids hokr
  have hpzl2 : pz.length = z.1.args.length := by rw [← hpz, List.length_map]
  rw [show (z :: pt).length = pt.length + 1 from rfl] at hcr ⊢
  refine enter Try.func24 rfl Try.ntmps24 rfl (Cls.start w) ?_
  unfold TT.v
  (simp only [argEnv, Nat.zero_add, Nat.reduceAdd])
  apply W.sr
  apply OL.box; rfl; rfl; exact CellsL.agg; (intro bk hbk; simp only [AllLe, and_true] at hbk)
  apply oas; rfl; rfl
  apply OL.nx
  apply W.seq
  apply W.sr
  apply omv; rfl; rfl
  apply oop; rfl; apply Pev.len_slice; rfl; exact yes; rfl
  apply obn; rfl; rfl; rfl; apply Bin.eql
  apply OL.nx
  revert bk
  intro b0 hb0
  refine W.cond rfl (fun hb => by simp at hb; omega) (fun _ => ?_)
  rw [usefulE]
  apply W.sk
  apply W.seq
  apply W.sr
  apply omv; rfl; rfl
  apply oop; rfl; apply Pev.idx; rfl; exact yes; rfl; exact yes; rfl; rfl; intro hcond; (simp only [Bool.and_eq_true, Bool.or_eq_true, Bool.not_eq_true', decide_eq_true_eq, decide_eq_false_iff_not] at *; omega)
  apply oop; rfl; apply Pev.fldA; rfl; exact yes; rfl
  apply oop; rfl; apply Pev.load_kept; rfl; exact yes; exact .head _; rfl; intro hcond; apply CellsAt.at_ (by assumption) rfl; intro hcond; assumption; intro hcond; exact NotOwned.au
  apply OL.nx
  apply W.block
  apply W.sr
  apply obn; rfl; rfl; rfl; apply Bin.eql
  apply oas; rfl; rfl
  apply OL.nx
  (refine W.cnd (fun hk3 => ?_) (fun hk3 => ?_)) <;> (try (exfalso; first | omega | exact hk3 trivial | contradiction))
  ·rw [if_pos hk3]
   obtain ⟨d, c, e1, e2, e3⟩ := hwp.cons hk3
   obtain ⟨ix, hmg⟩ := hT.tab.con e1
   have hH0 : ∀ k, k < w.heap.size → NotOwned [blk b0 55 [.slice T.q T.ds.length T.c, .map (some T.b)]] k := fun k hk => NotOwned.blk (by omega) .nil
   have hmo : manyOf T.D z.1.name = c.many := by unfold manyOf; rw [e1]
   rw [hmo]
   have hMw := use_con hT.uniq hM1 hk3 e1
   have hwa := wt_args (p := z.1) (free_no (.inr hk3))
   apply W.seq
   apply W.regd0; decide +kernel; kernel_rfl; decide +kernel; exact fun w hw => hw.drew
   apply qfa; rfl; rfl; rfl
   apply qld; rfl; rfl; exact .head _; rfl; rfl
   apply qmv; rfl; rfl
   apply qop; rfl; apply Pev.idx; rfl; exact yes; rfl; exact yes; rfl; rfl; intro hcond; (simp only [Bool.and_eq_true, Bool.or_eq_true, Bool.not_eq_true', decide_eq_true_eq, decide_eq_false_iff_not] at *; omega)
   apply qop; rfl; apply Pev.fldA; rfl; exact yes; rfl
   apply qop; rfl; apply Pev.load_kept; rfl; exact yes; exact .head _; rfl; intro hcond; apply CellsAt.at_ (by assumption) rfl; intro hcond; assumption; intro hcond; exact NotOwned.au
   (((first | (with_reducible apply OL.op) | (with_reducible apply QL.op)); (exact Guard.au); rfl; rfl); (refine Pev.lookup_v (m := T.m) (v := .agg #[.int .i64 (d : Int), .int .i64 ix, .int .i64 (c.many : Int)]) (zv := .agg #[.int .i64 0, .int .i64 0, .int .i64 0]) rfl (by (first | exact fun _ => rfl | exact fun h => h | (intro h; simp_all; done))) rfl (by (first | exact fun _ => rfl | exact fun h => h | (intro h; simp_all; done))) rfl rfl (fun w2 hw2 => (hT.at hw2 (by exact mau) hH0).map_) (by rw [hmg]; rfl)))
   apply qop; rfl; apply Pev.field; rfl; exact yes; rfl; rfl
   apply qas; rfl; rfl
   apply QL.nil
   with_reducible apply At.next
   apply W.seq
   refine W.regp (.fk 7 (.ef 14 (.ef 15 (.ef 16 (.ef 17 .nil)))) 14 (.ef 7 (.ef 15 (.ef 16 (.ef 17 .nil))))) (by (repeat (first | exact ZSplit.nil | apply ZSplit.pure rfl | apply ZSplit.tail))) (by kernel_rfl) (by decide +kernel) (fun w hw => hw.drew) (fun hyy => ?_)
   apply ZL.ld rfl; exact Guard.none; rfl; rfl; apply Pev.load_blkA; rfl; exact yes; exact .head _; rfl; exact Take.au
   apply ZL.op rfl; exact Guard.none; rfl; rfl; apply Pev.move; rfl; exact yes
   apply ZL.op rfl; exact Guard.none; rfl; rfl; apply Pev.move; rfl; exact yes
   apply ZL.op rfl; exact Guard.none; rfl; rfl; apply Pev.idx; rfl; exact yes; rfl; exact yes; rfl; rfl; intro hcond; (simp only [Bool.and_eq_true, Bool.or_eq_true, Bool.not_eq_true', decide_eq_true_eq, decide_eq_false_iff_not] at *; omega)
   apply ZL.op rfl; exact Guard.none; rfl; rfl; apply Pev.fldA; rfl; exact yes; rfl
   apply ZL.ld rfl; exact Guard.none; rfl; rfl; apply Pev.load_kept; rfl; exact yes; exact .head _; rfl; intro hcond; apply CellsAt.at_ (by assumption) rfl; intro hcond; assumption; intro hcond; exact NotOwned.au
   apply ZL.op rfl; exact Guard.none; rfl; rfl; apply Pev.move; rfl; exact yes
   apply ZL.op rfl; exact Guard.none; rfl; rfl; apply Pev.move; rfl; exact yes
   apply ZL.op rfl; exact Guard.none; rfl; rfl; apply Pev.idx; rfl; exact yes; rfl; exact yes; rfl; rfl; intro hcond; (simp only [Bool.and_eq_true, Bool.or_eq_true, Bool.not_eq_true', decide_eq_true_eq, decide_eq_false_iff_not] at *; omega)
   apply ZL.op rfl; exact Guard.none; rfl; rfl; apply Pev.fldA; rfl; exact yes; rfl
   apply ZL.ld rfl; exact Guard.none; rfl; rfl; apply Pev.load_kept; rfl; exact yes; exact .head _; rfl; intro hcond; apply CellsAt.at_ (by assumption) rfl; intro hcond; assumption; intro hcond; exact NotOwned.au
   apply ZL.op rfl; exact Guard.none; rfl; rfl; apply Pev.move; rfl; exact yes
   apply ZL.op rfl; exact Guard.none; rfl; rfl; apply Pev.slice_lo; rfl; exact yes; rfl; exact yes; rfl; rfl; intro hcond; (simp only [Bool.and_eq_true, Bool.or_eq_true, Bool.not_eq_true', decide_eq_true_eq, decide_eq_false_iff_not] at *; omega)
   apply ZL.nilN
   refine TN.fk hyy rfl rfl ?_ ?_
   ·refine OL.callE (α := GE × (Nat → Prop) × Nat) (fun gz => .slice gz.1.q gz.1.ps.length gz.1.c) (fun gz => gz.1.ps.map (fun r => r.1.map Prod.fst) = narrow rows z.1.name c.many ∧ gz.1.ps.length ≤ 100000 ∧ w.heap.size ≤ gz.2.2) (fun gz => Cls [row gz.2.2 gz.1.O gz.1.q gz.1.ps.length gz.1.c 25 1 (cat (patsE (fun p => TyO w (low w) p.1 p.2)).c gz.1.ps), pool (patsE (fun p => TyO w (low w) p.1 p.2)) gz.2.2 gz.2.1 gz.1.ps, blk b0 55 [.slice T.q T.ds.length T.c, .map (some T.b)]] [w]) rfl rfl (by exact Args.au) (fun w2 hw2 => ?_) ?_
    ·refine (narrow_calls q cap rs z.1.name c.many w w2 (hw2.toExt (.head _) (fun k hk => hH0 k hk)) (by omega) h hne (by omega) (hnsz z.1.name)).mono ?_
     rintro e w3 ⟨g, O2, h1, h2, h3, h4⟩
     rw [hrows] at h2
     refine ⟨(g, O2, w2.heap.size), h1, ⟨h2, by simp only; omega, (hw2.kp w (.head _)).size⟩, hw2.over (h4.forget (fun s hs => by rw [List.mem_singleton] at hs; rw [hs]; exact .head _)) (fun i hi k hk => ?_)⟩
     rcases List.mem_cons.1 hi with rfl | hi
     ·exact hk.1
     ·rw [List.mem_singleton] at hi
      subst hi
      exact hk.1
    rintro ⟨⟨On, qn, cn, pn⟩, On2, lo3⟩ ⟨hpn, hpnl, hlo3⟩
    simp only at hpn hpnl hlo3 ⊢
    apply OL.nil
    refine At.tkn (fun w9 hw9 => hw9.thin (.any (fun k hk => ⟨Nat.le_trans hlo3 hk.1, trivial⟩) (.any (fun k hk => ⟨Nat.le_trans hlo3 hk.1, trivial⟩) Thin.same))) ?_
    apply TN.ef (by assumption) rfl
    apply OL.buildSlice; rfl; rfl; rfl; exact Elems.au; rfl; rfl; (intro bk hbk; simp only [AllLe, and_true] at hbk)
    apply OL.nil
    revert bk
    intro bL hbL
    refine At.tkn (fun w9 hw9 => hw9.thin (.blk (by simp only [AllLe, and_true]; omega) (.any (fun k hk => ⟨Nat.le_trans hlo3 hk.1, trivial⟩) (.any (fun k hk => ⟨Nat.le_trans hlo3 hk.1, trivial⟩) Thin.same)))) ?_
    apply TN.ef (by assumption) rfl
    refine OL.callE (α := PY × Nat × Nat) (fun gz => .slice gz.1.1 (z.1.args.length + (pt.length + 1 - 1)) gz.1.2) (fun gz => z.1.args.length + (pt.length + 1 - 1) ≤ gz.1.2 ∧ w.heap.size ≤ gz.2.1) (fun gz => Cls [pile gz.2.1 (fun k => k < gz.2.2) [⟨gz.1.1, gz.1.2, cat tyR.c (pz ++ pt)⟩], blk bL 25 [.slice z.2.1 z.1.args.length z.2.2, .slice (cutq (some ar) capr 1 4) (pt.length + 1 - 1) (capr - 1)], row lo3 On qn pn.length cn 25 1 (cat (patsE (fun p => TyO w (low w) p.1 p.2)).c pn), pool (patsE (fun p => TyO w (low w) p.1 p.2)) lo3 On2 pn, blk b0 55 [.slice T.q T.ds.length T.c, .map (some T.b)]] [w]) rfl rfl (by exact Args.au) (fun w2 hw2 => ?_) ?_
    ·have hno2 : ∀ k, k < w.heap.size → NotOwned [blk bL 25 [.slice z.2.1 z.1.args.length z.2.2, .slice (cutq (some ar) capr 1 4) (pt.length + 1 - 1) (capr - 1)], row lo3 On qn pn.length cn 25 1 (cat (patsE (fun p => TyO w (low w) p.1 p.2)).c pn), pool (patsE (fun p => TyO w (low w) p.1 p.2)) lo3 On2 pn, blk b0 55 [.slice T.q T.ds.length T.c, .map (some T.b)]] k := fun k hk => NotOwned.blk (by omega) (NotOwned.row (by omega) (NotOwned.pool (by omega) (hH0 k hk)))
     refine (Concat2_calls bL (z.1.args.length) (pt.length + 1 - 1) (pz) pt z.2.1 (cutq (some ar) capr 1 4) z.2.2 (capr - 1) w2 (hw2.item (.head _)) hpzl2 (by omega) (hpza.at hw2 (.head _) hno2) (hdrop.at hw2 (.head _) hno2) (by omega)).mono ?_
     rintro e w3 ⟨q5, c5, h1, h2, h3, h4⟩
     exact ⟨((q5, c5), w2.heap.size, w3.heap.size), h1, ⟨h2, (hw2.kp w (.head _)).size⟩, Cls.fra hw2 h4 h3⟩
    rintro ⟨y5, lo5, hi5⟩ ⟨hy5, hlo5⟩
    simp only at hy5 hlo5 ⊢
    apply OL.nil
    refine At.tkn (fun w9 hw9 => hw9.thin (.any (fun k hk => ⟨Nat.le_trans hlo5 hk.1, trivial⟩) (.blk (by simp only [AllLe, and_true]; omega) (.any (fun k hk => ⟨Nat.le_trans hlo3 hk.1, trivial⟩) (.any (fun k hk => ⟨Nat.le_trans hlo3 hk.1, trivial⟩) Thin.same))))) ?_
    apply TN.ef (by assumption) rfl
    (((first | (with_reducible apply OL.op) | (with_reducible apply QL.op)); (exact Guard.au); rfl; rfl); (refine Pev.call (v := .bool (usefulE T.D f (narrow rows z.1.name c.many) (z.1.args ++ trow))) rfl (by exact Args.au) (fun _ w2 hw2 => ?_)))
    ·have hno2 : ∀ k, k < w.heap.size → NotOwned [pile lo5 (fun k => k < hi5) [⟨y5.1, y5.2, cat tyR.c (pz ++ pt)⟩], blk bL 25 [.slice z.2.1 z.1.args.length z.2.2, .slice (cutq (some ar) capr 1 4) (pt.length + 1 - 1) (capr - 1)], row lo3 On qn pn.length cn 25 1 (cat (patsE (fun p => TyO w (low w) p.1 p.2)).c pn), pool (patsE (fun p => TyO w (low w) p.1 p.2)) lo3 On2 pn, blk b0 55 [.slice T.q T.ds.length T.c, .map (some T.b)]] k := fun k hk => NotOwned.pile (by omega) (NotOwned.blk (by omega) (NotOwned.row (by omega) (NotOwned.pool (by omega) (hH0 k hk))))
     have harr := pool_arr hw2 (.tail _ (.tail _ (.head _))) (.tail _ (.tail _ (.tail _ (.head _)))) (hw2.toExt (.head _) hno2)
     have hmap : (pn.map fun r => (r.1.map Prod.fst, r.2)).map Prod.fst = narrow rows z.1.name c.many := by rw [List.map_map, ← hpn]; rfl
     have hrw : (pz ++ pt).map Prod.fst = z.1.args ++ trow := by rw [List.map_append, hrow, hpz]
     have hrl : (pz ++ pt).length = z.1.args.length + (pt.length + 1 - 1) := by rw [List.length_append, Nat.add_sub_cancel, hpzl2]
     have hrl2 : (z.1.args ++ trow).length = z.1.args.length + (pt.length + 1 - 1) := by rw [← hrw, List.length_map, hrl]
     have hpa : Arr tyR w2 (low w2) (pz ++ pt) y5.1 := pile_arr (hw2.item (.head _)) (fun p hp => Rel.at (R := tyR) ((List.mem_append.1 hp).elim (fun hp => hpza.el p hp) (fun hp => hr.el p (.tail _ hp))) hw2 (.head _) hno2)
     have hc := ih qn cn (pn.map fun r => (r.1.map Prod.fst, r.2)) y5.1 y5.2 (pz ++ pt) w2 (hT.at hw2 (.head _) hno2) (by rw [List.length_map]; exact hpnl) harr hpa (by rw [hrl]; exact hy5) (by rw [hmap, hrw, hrl, ← hrl2]; exact hMw.1) (by rw [hmap, hrw, hrl, ← hrl2]; have := hMw.2; omega) (by rw [hmap, hrw, hrl, ← hrl2]; have := hMw.2; omega)
     rw [hmap, hrw, List.length_map, hrl] at hc
     unfold TT.v at hc
     exact hc.mono (fun e w3 h => ⟨h.1, hw2.ext h.2⟩)
    apply OL.nil
    with_reducible apply At.tnn; decide +kernel
    apply TN.ef (by assumption) rfl
    apply oas; rfl; rfl
    apply OL.nil
    with_reducible apply At.tnn; decide +kernel
    apply TN.nil
    with_reducible apply At.np
    with_reducible apply At.next
    refine W.rt ?_
    ((with_reducible apply At.fin1); rfl; rfl; intro w' hw')
    exact ⟨rfl, hw'.toExt (s := w) (.head _) (fun k hk => NotOwned.pile (by omega) (NotOwned.blk (by omega) (NotOwned.row (by omega) (NotOwned.pool (by omega) (hH0 k hk)))))⟩
   ·apply OL.buildSlice; rfl; rfl; rfl; exact Elems.au; rfl; rfl; (intro bk hbk; simp only [AllLe, and_true] at hbk)
    apply OL.nil
    refine At.tkn (fun w hw => hw.thin ?_) ?_; exact Thin.au
    apply TN.ef (by assumption) rfl
    revert bk
    intro bL hbL
    refine OL.callE (α := GE × (Nat → Prop) × Nat) (fun gz => .slice gz.1.q gz.1.ps.length gz.1.c) (fun gz => gz.1.ps.map (fun r => r.1.map Prod.fst) = narrow rows z.1.name c.many ∧ gz.1.ps.length ≤ 100000 ∧ w.heap.size ≤ gz.2.2) (fun gz => Cls [row gz.2.2 gz.1.O gz.1.q gz.1.ps.length gz.1.c 25 1 (cat (patsE (fun p => TyO w (low w) p.1 p.2)).c gz.1.ps), pool (patsE (fun p => TyO w (low w) p.1 p.2)) gz.2.2 gz.2.1 gz.1.ps, blk bL 25 [.slice z.2.1 z.1.args.length z.2.2, .slice (cutq (some ar) capr 1 4) (pt.length + 1 - 1) (capr - 1)], blk b0 55 [.slice T.q T.ds.length T.c, .map (some T.b)]] [w]) rfl rfl (by exact Args.au) (fun w2 hw2 => ?_) ?_
    ·refine (narrow_calls q cap rs z.1.name c.many w w2 (hw2.toExt (.head _) (fun k hk => NotOwned.blk (by omega) (hH0 k hk))) (by omega) h hne (by omega) (hnsz z.1.name)).mono ?_
     rintro e w3 ⟨g, O2, h1, h2, h3, h4⟩
     rw [hrows] at h2
     refine ⟨(g, O2, w2.heap.size), h1, ⟨h2, by simp only; omega, (hw2.kp w (.head _)).size⟩, hw2.over (h4.forget (fun s hs => by rw [List.mem_singleton] at hs; rw [hs]; exact .head _)) (fun i hi k hk => ?_)⟩
     rcases List.mem_cons.1 hi with rfl | hi
     ·exact hk.1
     ·rw [List.mem_singleton] at hi
      subst hi
      exact hk.1
    rintro ⟨⟨On, qn, cn, pn⟩, On2, lo3⟩ ⟨hpn, hpnl, hlo3⟩
    simp only at hpn hpnl hlo3 ⊢
    apply OL.nil
    refine At.tkn (fun w9 hw9 => hw9.thin (.any (fun k hk => ⟨Nat.le_trans hlo3 hk.1, trivial⟩) (.any (fun k hk => ⟨Nat.le_trans hlo3 hk.1, trivial⟩) (.blk (by simp only [AllLe, and_true]; omega) Thin.same)))) ?_
    apply TN.ef (by assumption) rfl
    refine OL.callE (α := PY × Nat × Nat) (fun gz => .slice gz.1.1 (z.1.args.length + (pt.length + 1 - 1)) gz.1.2) (fun gz => z.1.args.length + (pt.length + 1 - 1) ≤ gz.1.2 ∧ w.heap.size ≤ gz.2.1) (fun gz => Cls [pile gz.2.1 (fun k => k < gz.2.2) [⟨gz.1.1, gz.1.2, cat tyR.c (pz ++ pt)⟩], row lo3 On qn pn.length cn 25 1 (cat (patsE (fun p => TyO w (low w) p.1 p.2)).c pn), pool (patsE (fun p => TyO w (low w) p.1 p.2)) lo3 On2 pn, blk bL 25 [.slice z.2.1 z.1.args.length z.2.2, .slice (cutq (some ar) capr 1 4) (pt.length + 1 - 1) (capr - 1)], blk b0 55 [.slice T.q T.ds.length T.c, .map (some T.b)]] [w]) rfl rfl (by exact Args.au) (fun w2 hw2 => ?_) ?_
    ·have hno2 : ∀ k, k < w.heap.size → NotOwned [row lo3 On qn pn.length cn 25 1 (cat (patsE (fun p => TyO w (low w) p.1 p.2)).c pn), pool (patsE (fun p => TyO w (low w) p.1 p.2)) lo3 On2 pn, blk bL 25 [.slice z.2.1 z.1.args.length z.2.2, .slice (cutq (some ar) capr 1 4) (pt.length + 1 - 1) (capr - 1)], blk b0 55 [.slice T.q T.ds.length T.c, .map (some T.b)]] k := fun k hk => NotOwned.row (by omega) (NotOwned.pool (by omega) (NotOwned.blk (by omega) (hH0 k hk)))
     refine (Concat2_calls bL (z.1.args.length) (pt.length + 1 - 1) (pz) pt z.2.1 (cutq (some ar) capr 1 4) z.2.2 (capr - 1) w2 (hw2.item (.tail _ (.tail _ (.head _)))) hpzl2 (by omega) (hpza.at hw2 (.head _) hno2) (hdrop.at hw2 (.head _) hno2) (by omega)).mono ?_
     rintro e w3 ⟨q5, c5, h1, h2, h3, h4⟩
     exact ⟨((q5, c5), w2.heap.size, w3.heap.size), h1, ⟨h2, (hw2.kp w (.head _)).size⟩, Cls.fra hw2 h4 h3⟩
    rintro ⟨y5, lo5, hi5⟩ ⟨hy5, hlo5⟩
    simp only at hy5 hlo5 ⊢
    apply OL.nil
    refine At.tkn (fun w9 hw9 => hw9.thin (.any (fun k hk => ⟨Nat.le_trans hlo5 hk.1, trivial⟩) (.any (fun k hk => ⟨Nat.le_trans hlo3 hk.1, trivial⟩) (.any (fun k hk => ⟨Nat.le_trans hlo3 hk.1, trivial⟩) (.blk (by simp only [AllLe, and_true]; omega) Thin.same))))) ?_
    apply TN.ef (by assumption) rfl
    (((first | (with_reducible apply OL.op) | (with_reducible apply QL.op)); (exact Guard.au); rfl; rfl); (refine Pev.call (v := .bool (usefulE T.D f (narrow rows z.1.name c.many) (z.1.args ++ trow))) rfl (by exact Args.au) (fun _ w2 hw2 => ?_)))
    ·have hno2 : ∀ k, k < w.heap.size → NotOwned [pile lo5 (fun k => k < hi5) [⟨y5.1, y5.2, cat tyR.c (pz ++ pt)⟩], row lo3 On qn pn.length cn 25 1 (cat (patsE (fun p => TyO w (low w) p.1 p.2)).c pn), pool (patsE (fun p => TyO w (low w) p.1 p.2)) lo3 On2 pn, blk bL 25 [.slice z.2.1 z.1.args.length z.2.2, .slice (cutq (some ar) capr 1 4) (pt.length + 1 - 1) (capr - 1)], blk b0 55 [.slice T.q T.ds.length T.c, .map (some T.b)]] k := fun k hk => NotOwned.pile (by omega) (NotOwned.row (by omega) (NotOwned.pool (by omega) (NotOwned.blk (by omega) (hH0 k hk))))
     have harr := pool_arr hw2 (.tail _ (.head _)) (.tail _ (.tail _ (.head _))) (hw2.toExt (.head _) hno2)
     have hmap : (pn.map fun r => (r.1.map Prod.fst, r.2)).map Prod.fst = narrow rows z.1.name c.many := by rw [List.map_map, ← hpn]; rfl
     have hrw : (pz ++ pt).map Prod.fst = z.1.args ++ trow := by rw [List.map_append, hrow, hpz]
     have hrl : (pz ++ pt).length = z.1.args.length + (pt.length + 1 - 1) := by rw [List.length_append, Nat.add_sub_cancel, hpzl2]
     have hrl2 : (z.1.args ++ trow).length = z.1.args.length + (pt.length + 1 - 1) := by rw [← hrw, List.length_map, hrl]
     have hpa : Arr tyR w2 (low w2) (pz ++ pt) y5.1 := pile_arr (hw2.item (.head _)) (fun p hp => Rel.at (R := tyR) ((List.mem_append.1 hp).elim (fun hp => hpza.el p hp) (fun hp => hr.el p (.tail _ hp))) hw2 (.head _) hno2)
     have hc := ih qn cn (pn.map fun r => (r.1.map Prod.fst, r.2)) y5.1 y5.2 (pz ++ pt) w2 (hT.at hw2 (.head _) hno2) (by rw [List.length_map]; exact hpnl) harr hpa (by rw [hrl]; exact hy5) (by rw [hmap, hrw, hrl, ← hrl2]; exact hMw.1) (by rw [hmap, hrw, hrl, ← hrl2]; have := hMw.2; omega) (by rw [hmap, hrw, hrl, ← hrl2]; have := hMw.2; omega)
     rw [hmap, hrw, List.length_map, hrl] at hc
     unfold TT.v at hc
     exact hc.mono (fun e w3 h => ⟨h.1, hw2.ext h.2⟩)
    apply OL.nil
    with_reducible apply At.tnn; decide +kernel
    apply TN.ef (by assumption) rfl
    apply oas; rfl; rfl
    apply OL.nil
    with_reducible apply At.tnn; decide +kernel
    apply TN.nil
    with_reducible apply At.np
    with_reducible apply At.next
    refine W.rt ?_
    ((with_reducible apply At.fin1); rfl; rfl; intro w' hw')
    exact ⟨rfl, hw'.toExt (s := w) (.head _) (fun k hk => NotOwned.pile (by omega) (NotOwned.row (by omega) (NotOwned.pool (by omega) (NotOwned.blk (by omega) (hH0 k hk)))))⟩
  rw [if_neg hk3]
  apply W.sr
  apply obn; rfl; rfl; rfl; apply Bin.eql
  apply oas; rfl; rfl
  apply OL.nx
  (refine W.cnd (fun hk2 => ?_) (fun hk2 => ?_)) <;> (try (exfalso; first | omega | exact hk2 trivial | contradiction))
  ·rw [if_pos hk2]
   have hMw := use_int hM1 z.1.var
   apply W.sr
   apply oas; rfl; rfl
   apply OL.nx
   apply W.seq
   apply W.sr
   apply omv; rfl; rfl
   apply oop; rfl; apply Pev.len_slice; rfl; exact yes; rfl
   apply omv; rfl; rfl
   apply OL.nx
   apply W.block
   refine W.loop (G := Nat × GL) (fun g => g.1 ≤ rs.length ∧ g.2.ps.map Prod.fst = leftI ((rs.take g.1).map Prod.fst) z.1.var ∧ g.2.ps.length ≤ g.1 ∧ ∀ p ∈ g.2.ps, patsR.ok w (low w) p.1 p.2) (fun g => rs.length - g.1)
    (fun g => [(2, true, .slice (some ar) (pt.length + 1) capr), (3, true, .pointer (some ⟨b0, 0, none⟩)), (8, true, .slice g.2.q g.2.ps.length g.2.c), (56, true, .slice q rs.length cap), (57, true, .int .i64 (rs.length : Int)), (58, true, .int .i64 (g.1 : Int))])
    (fun g => Cls [row w.heap.size g.2.O g.2.q g.2.ps.length g.2.c 25 1 (cat patsR.c g.2.ps), blk b0 55 [.slice T.q T.ds.length T.c, .map (some T.b)]] [w]) (0, ⟨fun _ => False, none, 0, []⟩) ⟨Nat.zero_le _, rfl, Nat.le_refl _, fun p hp => by cases hp⟩ (by exact Sub.au) (fun w' hw' => hw'.row_nil w.heap.size 25 1) ?_
   rintro ⟨i, O, q1, c1, ls⟩ ⟨hi, hps, hpl, hok⟩
   simp only at hi hps hpl hok ⊢
   apply W.sr
   apply obn; rfl; rfl; rfl; apply Bin.lss
   apply OL.nx
   apply W.seq
   (refine W.cnd (fun hlt => ?_) (fun hlt => ?_)) <;> (try (exfalso; first | omega | exact hlt trivial | contradiction))
   ·obtain ⟨a, a2, x, xt, y, rfl, hab, hu, hcell, hab2, hcell2, harr, hyc, hyl⟩ := row_head h (show i < rs.length by omega) hne
    have hstep := leftI_step z.1.var hu
    rw [← hps] at hstep
    obtain ⟨u, hu2⟩ : ∃ u : List Ty × PY, u = (xt.map Prod.fst, (cutq (some a2) y.2 1 4, y.2 - 1)) := ⟨_, rfl⟩
    have huok : patsR.ok w (low w) u.1 u.2 := by
     rw [hu2]
     refine ⟨⟨xt, rfl, ?_⟩, by rw [List.length_map]; show xt.length ≤ y.2 - 1; omega, by rw [List.length_map]; omega⟩
     have := Arr.drop harr (cap := y.2) (by simpa using hyc) 1
     exact this
    apply W.sk
    apply W.sb
    apply W.sr
    apply oop; rfl; apply Pev.idx; rfl; exact yes; rfl; exact yes; rfl; rfl; intro hcond; omega
    apply oop; rfl; apply Pev.load_kept; rfl; exact yes; exact .head _; rfl; intro hcond; assumption; intro hcond; (rw [add_block]; assumption); intro hcond; exact NotOwned.au
    apply oas; rfl; rfl
    apply OL.nx
    apply W.seq
    apply W.regd0; decide +kernel; kernel_rfl; decide +kernel; exact fun w hw => hw.drew
    apply qmv; rfl; rfl
    apply qop; rfl; apply Pev.idx; rfl; exact yes; rfl; exact yes; rfl; rfl; intro hcond; (simp only [Bool.and_eq_true, Bool.or_eq_true, Bool.not_eq_true', decide_eq_true_eq, decide_eq_false_iff_not] at *; omega)
    apply qop; rfl; apply Pev.load_keptA; rfl; exact yes; exact .head _; rfl; intro hcond; assumption; rfl; intro hcond; assumption; intro hcond; exact NotOwned.au
    (((first | (with_reducible apply OL.op) | (with_reducible apply QL.op)); (exact Guard.au); rfl; rfl); (exact Pev.call (v := .bool (free x.1)) rfl (by exact Args.au) (fun _ w2 hw2 => (free_calls x.1 x.2 w2).mono (fun e w3 h => ⟨h.1, hw2.ext h.2⟩))))
    apply qmv; rfl; rfl
    apply qno; rfl; rfl; rfl; apply Pev.move; rfl; exact yes
    apply qno; rfl; rfl; rfl; apply Pev.idx; rfl; exact fun h => h; rfl; exact yes; rfl; rfl; intro hcond; (simp only [Bool.and_eq_true, Bool.or_eq_true, Bool.not_eq_true', decide_eq_true_eq, decide_eq_false_iff_not] at *; omega)
    apply qno; rfl; rfl; rfl; apply Pev.fldA; rfl; exact fun h => h; rfl
    apply qno; rfl; rfl; rfl; apply Pev.load_kept; rfl; exact fun h => h; exact .head _; rfl; intro hcond; apply CellsAt.at_ (by assumption) rfl; intro hcond; assumption; intro hcond; exact NotOwned.au
    apply qno; rfl; rfl; rfl; apply Pev.move; rfl; exact yes
    apply qno; rfl; rfl; rfl; apply Pev.idx; rfl; exact fun h => h; rfl; exact yes; rfl; rfl; intro hcond; (simp only [Bool.and_eq_true, Bool.or_eq_true, Bool.not_eq_true', decide_eq_true_eq, decide_eq_false_iff_not] at *; omega)
    apply qno; rfl; rfl; rfl; apply Pev.fldA; rfl; exact fun h => h; rfl
    apply qno; rfl; rfl; rfl; apply Pev.load_kept; rfl; exact fun h => h; exact .head _; rfl; intro hcond; apply CellsAt.at_ (by assumption) rfl; intro hcond; assumption; intro hcond; exact NotOwned.au
    apply qno; rfl; rfl; rfl; apply Pev.bin; rfl; exact fun h => h; rfl; exact fun h => h; intro hcond; apply Bin.eql
    apply qop; rfl; apply Pev.pick_or; rfl; exact yes; rfl; exact fun h => h
    apply QL.nil
    with_reducible apply At.next
    refine W.cond rfl (fun hf => ?_) (fun hf => ?_)
    ·have e1 : ls.length + 1 = (ls ++ [u]).length := by simp
     have e2 : cat patsR.c ls ++ [Value.slice (cutq (some a2) y.2 1 4) (xt.length + 1 - 1) (y.2 - 1)] = cat patsR.c (ls ++ [u]) := by
      rw [cat_append, hu2]
      simp only [cat, List.append_nil]
      show _ = _ ++ [Value.slice (cutq (some a2) y.2 1 4) (List.map Prod.fst xt).length (y.2 - 1)]
      rw [List.length_map, Nat.add_sub_cancel]
     apply W.reg
     apply omv; rfl; rfl
     apply omv; rfl; rfl
     apply oop; rfl; apply Pev.slice_lo; rfl; exact yes; rfl; exact yes; rfl; rfl; intro hcond; (simp only [Bool.and_eq_true, Bool.or_eq_true, Bool.not_eq_true', decide_eq_true_eq, decide_eq_false_iff_not] at *; omega)
     apply OL.buildSlice; rfl; rfl; rfl; exact Elems.au; rfl; rfl; (intro bk hbk; simp only [AllLe, and_true] at hbk)
     apply OL.append; rfl; rfl; rfl; rfl; exact Hole.au; exact .head _; exact Take.au; rfl; rfl; exact ⟨_, .head _, Nat.le_refl _⟩; omega; intro O1 g1 cap1
     apply oas; rfl; rfl
     apply OL.nil
     with_reducible apply At.in_normal
     with_reducible apply At.next
     apply W.reg
     apply obn; rfl; rfl; rfl; apply Bin.add_in; omega
     apply omv; rfl; rfl
     apply OL.nil
     rw [e1, e2]
     exact At.again (i + 1, ⟨O1, some ⟨g1, 0, none⟩, cap1, ls ++ [u]⟩) ⟨by simp only; omega, by simp only [hstep, hf, hu2]; simp, by simp only [← e1]; omega, fun p hp => (List.mem_append.1 hp).elim (hok p) (fun hp => by rw [List.mem_singleton] at hp; rw [hp]; exact huok)⟩ (by simp only; omega) (by exact Sub.au) (fun w' hw' => hw'.thin (by exact Thin.au))
    ·apply W.skip
     with_reducible apply At.in_normal
     with_reducible apply At.next
     apply W.reg
     apply obn; rfl; rfl; rfl; apply Bin.add_in; omega
     apply omv; rfl; rfl
     apply OL.nil
     exact At.again (i + 1, ⟨O, q1, c1, ls⟩) ⟨by simp only; omega, by simp only [hstep, hf]; simp, by simp only; omega, hok⟩ (by simp only; omega) (by exact Sub.au) (fun w' hw' => hw'.thin (by exact Thin.au))
   ·obtain rfl : i = rs.length := by omega
    rw [List.take_length, hrows] at hps
    refine W.xt ?_
    with_reducible apply At.next
    apply W.seq
    apply W.regd0; decide +kernel; kernel_rfl; decide +kernel; exact fun w hw => hw.drew
    apply qop; rfl; apply Pev.load_blkA; rfl; exact yes; exact .tail _ (.head _); rfl; exact Take.au
    apply qmv; rfl; rfl
    apply qmv; rfl; rfl
    apply qop; rfl; apply Pev.slice_lo; rfl; exact yes; rfl; exact yes; rfl; rfl; intro hcond; (simp only [Bool.and_eq_true, Bool.or_eq_true, Bool.not_eq_true', decide_eq_true_eq, decide_eq_false_iff_not] at *; omega)
    (((first | (with_reducible apply OL.op) | (with_reducible apply QL.op)); (exact Guard.au); rfl; rfl); (refine Pev.call (v := .bool (usefulE T.D f (leftI rows z.1.var) trow)) rfl (by exact Args.au) (fun _ w2 hw2 => ?_)))
    ·have hno2 : ∀ k, k < w.heap.size → NotOwned [row w.heap.size O q1 ls.length c1 25 1 (cat patsR.c ls), blk b0 55 [.slice T.q T.ds.length T.c, .map (some T.b)]] k := fun k hk => NotOwned.row (by omega) (NotOwned.blk (by omega) .nil)
     have hc := ih q1 c1 ls (cutq (some ar) capr 1 4) (capr - 1) pt w2 (hT.at hw2 (.head _) hno2) (by omega) (Arr.of_sl (SlAt.of_row (hw2.item (.head _))) (fun r hr => Rel.at (R := patsR) (hok r hr) hw2 (.head _) hno2)) (hdrop.at hw2 (.head _) hno2) (by omega) (by rw [hrow, hps, ← hrowl]; exact hMw.1) (by rw [hrow, hps, ← hrowl]; have := hMw.2; omega) (by rw [hrow, hps, ← hrowl]; have := hMw.2; omega)
     rw [hrow, hps] at hc
     unfold TT.v at hc
     rw [Nat.add_sub_cancel]
     exact hc.mono (fun e w3 h => ⟨h.1, hw2.ext h.2⟩)
    apply qas; rfl; rfl
    apply QL.nil
    with_reducible apply At.next
    refine W.rt ?_
    ((with_reducible apply At.fin1); rfl; rfl; intro w' hw')
    exact ⟨rfl, hw'.toExt (s := w) (.head _) (fun k hk => NotOwned.row (by omega) (NotOwned.blk (by omega) .nil))⟩
  rw [if_neg hk2]
  have hzf : free z.1 = true := by
   cases hf : free z.1 with
   | true => rfl
   | false => exact absurd (hwp.kinds hf) (by omega)
  apply W.skip
  with_reducible apply At.in_normal
  with_reducible apply At.next
  apply W.sr
  apply omv; rfl; rfl
  refine OL.callE (α := (Option Addr × Nat × List (Ty × PY)) × Nat × Nat) (fun z => .slice z.1.1 z.1.2.2.length z.1.2.1) (fun z => z.1.2.2.map Prod.fst = first rows ∧ z.1.2.2.length ≤ 100000 ∧ (∀ p ∈ z.1.2.2, TyO w (low w) p.1 p.2) ∧ w.heap.size ≤ z.2.1) (fun z => Cls [pile z.2.1 (fun k => k < z.2.2) [⟨z.1.1, z.1.2.1, cat tyR.c z.1.2.2⟩], blk b0 55 [.slice T.q T.ds.length T.c, .map (some T.b)]] [w]) rfl rfl (by exact Args.au) (fun w2 hw2 => ?_) ?_
  ·refine (first_calls q cap rs w w2 (hw2.toExt (.head _) (fun k hk => by exact NotOwned.au)) (by omega) h hne).mono ?_
   rintro e w3 ⟨q', c', ps, h1, h2, h3, h4, h5, h6⟩
   exact ⟨((q', c', ps), w2.heap.size, w3.heap.size), h1, ⟨by rw [h2, hrows], by simp only; omega, h5, (hw2.kp w (.head _)).size⟩, Cls.fra hw2 h6 h4⟩
  rintro ⟨⟨qf, cf, pf⟩, lo1, hi1⟩ ⟨hpf, hpfl, hpfo, hlo1⟩
  simp only at hpf hpfl hpfo hlo1 ⊢
  have hpm : ∀ p ∈ pf, p.1 ∈ first rows := fun p hp => by rw [← hpf]; exact List.mem_map_of_mem hp
  have hno1 : ∀ k, k < w.heap.size → NotOwned [pile lo1 (fun k => k < hi1) [⟨qf, cf, cat tyR.c pf⟩], blk b0 55 [.slice T.q T.ds.length T.c, .map (some T.b)]] k := fun k hk => NotOwned.pile (by omega) (NotOwned.blk (by omega) .nil)
  obtain ⟨ab, hab⟩ : ∃ ab, absent T.D (first rows) = ab := ⟨_, rfl⟩
  apply oas; rfl; rfl
  apply OL.nx
  apply W.seq
  apply W.sr
  apply oop; rfl; apply Pev.load_blkA; rfl; exact yes; exact .tail _ (.head _); rfl; exact Take.au
  apply omv; rfl; rfl
  refine OL.callE (α := PY × Nat × Nat) (fun z => .tuple #[.agg (tyc (ab.getD anyT) z.1).toArray, .bool ab.isSome]) (fun z => w.heap.size ≤ z.2.1) (fun z => Cls [pool tyR z.2.1 (fun k => k < z.2.2) [(ab.getD anyT, z.1)], pile lo1 (fun k => k < hi1) [⟨qf, cf, cat tyR.c pf⟩], blk b0 55 [.slice T.q T.ds.length T.c, .map (some T.b)]] [w]) rfl rfl (by exact Args.au) (fun w2 hw2 => ?_) ?_
  ·refine (absent_calls T qf cf pf w2 (hT.at hw2 (.head _) hno1) (by omega) (pile_arr (hw2.item (.head _)) (fun p hp => Rel.at (R := tyR) (hpfo p hp) hw2 (.head _) hno1)) (fun p hp => ⟨(hMr.wf_first (hpm p hp)).1, (first_col (hpm p hp)).2⟩) (fun p hp q hq => (hMr.kinds (hpm p hp) (hpm q hq)).1)).mono ?_
   rintro e w3 ⟨y, h1, h2, h3⟩
   rw [hpf, hab] at h1 h2
   exact ⟨(y, w2.heap.size, w3.heap.size), h1, (hw2.kp w (.head _)).size, Cls.pat hw2 h3 h2⟩
  rintro ⟨ya, lo2, hi2⟩ hlo2
  simp only [tyc] at hlo2 ⊢
  cases ab with
  | some p =>
   simp only [Option.getD_some, Option.isSome_some]
   rw [hab]
   simp only
   have hMw := use_rest hM1
   apply omv; rfl; rfl
   apply oex; rfl; rfl; rfl
   apply oex; rfl; rfl; rfl
   apply OL.alloc; rfl; rfl; exact CellsL.agg; (intro bk hbk; simp only [AllLe, and_true] at hbk)
   apply OL.storeB; rfl; rfl; exact CellsL.agg; rfl; rfl; rfl; exact Swap.au; exact Put.au
   apply oas; rfl; rfl
   apply OL.nsr
   apply omv; rfl; rfl
   apply OL.nx
   revert bk
   intro b9 hb9
   refine W.cond rfl (fun _ => ?_) (fun hb => by cases hb)
   have hH : ∀ k, k < w.heap.size → NotOwned [blk b0 55 [.slice T.q T.ds.length T.c, .map (some T.b)]] k := fun k hk => NotOwned.blk (by omega) .nil
   refine W.cls (C' := Cls [blk b0 55 [.slice T.q T.ds.length T.c, .map (some T.b)]] [w]) (fun w' hw' => hw'.thin (.blk (by simp only [AllLe, and_true]; omega) (.any (fun k hk => ⟨Nat.le_trans hlo2 hk.1, trivial⟩) (.any (fun k hk => ⟨Nat.le_trans hlo1 hk.1, trivial⟩) Thin.same)))) ?_
   apply W.seq
   (refine W.regm (by (repeat (first | exact ZSplit.nil | apply ZSplit.pure rfl | apply ZSplit.tail))) (by (repeat (first | exact Tag.nil | apply Tag.pu rfl | apply Tag.ef))) (by kernel_rfl) (by decide +kernel) (fun w hw => hw.drew) ?_)
   apply ZL.ld rfl; exact Guard.none; rfl; rfl; apply Pev.load_blkA; rfl; exact yes; exact .head _; rfl; exact Take.au
   apply ZL.op rfl; exact Guard.none; rfl; rfl; apply Pev.move; rfl; exact yes
   apply ZL.op rfl; exact Guard.none; rfl; rfl; apply Pev.move; rfl; exact yes
   apply ZL.op rfl; exact Guard.none; rfl; rfl; apply Pev.slice_lo; rfl; exact yes; rfl; exact yes; rfl; rfl; intro hcond; (simp only [Bool.and_eq_true, Bool.or_eq_true, Bool.not_eq_true', decide_eq_true_eq, decide_eq_false_iff_not] at *; omega)
   apply ZL.nilM
   apply TM.one rfl
   refine OL.callE (α := (Option Addr × Nat × List (List Ty × PY)) × Nat × Nat) (fun z => .slice z.1.1 z.1.2.2.length z.1.2.1) (fun z => z.1.2.2.map Prod.fst = rest rows ∧ z.1.2.2.length ≤ 100000 ∧ (∀ r ∈ z.1.2.2, patsR.ok w (low w) r.1 r.2) ∧ w.heap.size ≤ z.2.1) (fun z => Cls [pile z.2.1 (fun k => k < z.2.2) [⟨z.1.1, z.1.2.1, cat patsR.c z.1.2.2⟩], blk b0 55 [.slice T.q T.ds.length T.c, .map (some T.b)]] [w]) rfl rfl (by exact Args.au) (fun w2 hw2 => ?_) ?_
   ·refine (rest_calls q cap rs w w2 (hw2.toExt (.head _) hH) (by omega) h hne).mono ?_
    rintro e w3 ⟨q', c', ls, h1, h2, h3, h4, h5, h6, h7⟩
    exact ⟨((q', c', ls), w2.heap.size, w3.heap.size), h1, ⟨by rw [h2, hrows], by simp only; omega, h6, (hw2.kp w (.head _)).size⟩, Cls.frs hw2 h7 h5⟩
   rintro ⟨⟨ql, cl, ls⟩, lo3, hi3⟩ ⟨hls, hlsl, hlso, hlo3⟩
   simp only at hls hlsl hlso hlo3 ⊢
   apply OL.nil
   refine At.tkm (fun w9 hw9 => hw9.thin (.any (fun k hk => ⟨Nat.le_trans hlo3 hk.1, trivial⟩) Thin.same)) ?_
   apply TM.one rfl
   (((first | (with_reducible apply OL.op) | (with_reducible apply QL.op)); (exact Guard.au); rfl; rfl); (refine Pev.call (v := .bool (usefulE T.D f (rest rows) trow)) rfl (by exact Args.au) (fun _ w2 hw2 => ?_)))
   ·have hno2 : ∀ k, k < w.heap.size → NotOwned [pile lo3 (fun k => k < hi3) [⟨ql, cl, cat patsR.c ls⟩], blk b0 55 [.slice T.q T.ds.length T.c, .map (some T.b)]] k := fun k hk => NotOwned.pile (by omega) (hH k hk)
    have hc := ih ql cl ls (cutq (some ar) capr 1 4) (capr - 1) pt w2 (hT.at hw2 (.head _) hno2) hlsl (Arr.of_sl (pile_at (hw2.item (.head _)) (.head _)) (fun r hr => Rel.at (R := patsR) (hlso r hr) hw2 (.head _) hno2)) (hdrop.at hw2 (.head _) hno2) (by omega) (by rw [hrow, hls, ← hrowl]; exact hMw.1) (by rw [hrow, hls, ← hrowl]; have := hMw.2; omega) (by rw [hrow, hls, ← hrowl]; have := hMw.2; omega)
    rw [hrow, hls] at hc
    unfold TT.v at hc
    rw [Nat.add_sub_cancel]
    exact hc.mono (fun e w3 h => ⟨h.1, hw2.ext h.2⟩)
   apply OL.nil
   with_reducible apply At.tnm; decide +kernel
   apply TM.pure rfl; exact Guard.none; rfl; rfl; apply Pev.assign; rfl; exact yes
   apply TM.nil
   with_reducible apply At.np
   with_reducible apply At.next
   refine W.rt ?_
   ((with_reducible apply At.fin1); rfl; rfl; intro w' hw')
   exact ⟨rfl, hw'.toExt (s := w) (.head _) (fun k hk => NotOwned.pile (by omega) (hH k hk))⟩
  | none =>
   simp only [Option.getD_none, Option.isSome_none]
   obtain ⟨d, x0, hx0, hxd, hall, hcf, _, hcon⟩ := absent_none hMr hab
   rw [hab]
   simp only
   rw [hcf]
   have h3 : ∀ q ∈ first rows, q.kind = 3 := fun q hq => (hall q hq).1
   obtain ⟨z0, pf', hpf0⟩ : ∃ z r, pf = z :: r := by
    cases hx : pf with
    | nil => rw [hx] at hpf; rw [← hpf] at hx0; cases hx0
    | cons z r => exact ⟨z, r, rfl⟩
   have hz0m : z0.1 ∈ first rows := hpm z0 (by rw [hpf0]; exact .head _)
   obtain ⟨hz3, hzd⟩ := hall _ hz0m
   obtain ⟨c0, e1⟩ : ∃ c0, conAt T.D z0.1.name = some (d, c0) := by
    obtain ⟨d', c', g1, _⟩ := (hMr.wf_first hz0m).1.cons hz3
    rw [dOf_of g1] at hzd
    cases hzd
    exact ⟨c', g1⟩
   obtain ⟨ad, ud, cs, k1, k2, k3, k4, k5, k6, k7⟩ := dat_at hT e1
   obtain ⟨ix, hmg⟩ := hT.tab.con e1
   have hcu := hT.uniq
   apply omv; rfl; rfl
   apply oex; rfl; rfl; rfl
   apply oex; rfl; rfl; rfl
   apply OL.alloc; rfl; rfl; exact CellsL.agg; (intro bk hbk; simp only [AllLe, and_true] at hbk)
   apply OL.storeB; rfl; rfl; exact CellsL.agg; rfl; rfl; rfl; exact Swap.au; exact Put.au
   apply oas; rfl; rfl
   apply OL.nsr
   apply omv; rfl; rfl
   apply OL.nx
   revert bk
   intro b9 hb9
   refine W.cond rfl (fun hb => by cases hb) (fun _ => ?_)
   refine W.cls (C' := Cls [pile lo1 (fun k => k < hi1) [⟨qf, cf, cat tyR.c pf⟩], blk b0 55 [.slice T.q T.ds.length T.c, .map (some T.b)]] [w]) (fun w' hw' => hw'.thin (.blk (by simp only [AllLe, and_true]; omega) (.any (fun k hk => ⟨Nat.le_trans hlo2 hk.1, trivial⟩) Thin.same))) ?_
   refine W.fact (φ := ∃ a, qf = some a) (fun w' hw' => pile_some (hw'.item (.head _)) (.head _) (by rw [hpf0]; exact Nat.succ_pos _)) (fun hq => ?_)
   obtain ⟨af, rfl⟩ := hq
   have hpl0 : 0 < pf.length := by rw [hpf0]; exact Nat.succ_pos _
   rw [k1] at hno1 ⊢
   apply W.sk
   apply W.seq
   apply W.seq
   apply W.regd0; decide +kernel; kernel_rfl; decide +kernel; exact fun w hw => hw.drew
   apply qfa; rfl; rfl; rfl
   apply qld; rfl; rfl; exact .tail _ (.head _); rfl; rfl
   apply qfa; rfl; rfl; rfl
   apply qld; rfl; rfl; exact .tail _ (.head _); rfl; rfl
   apply qmv; rfl; rfl
   apply qop; rfl; apply Pev.idx; rfl; exact yes; rfl; exact yes; rfl; rfl; intro hcond; omega
   apply qop; rfl; apply Pev.fldA; rfl; exact yes; rfl
   (((first | (with_reducible apply OL.op) | (with_reducible apply QL.op)); (exact Guard.au); rfl; rfl); (refine Pev.load_pile (s := ⟨some af, cf, cat tyR.c pf⟩) (k := 1) (v := .string z0.1.name) rfl (by (first | exact fun _ => rfl | exact fun h => h | (intro h; simp_all; done))) (.head _) rfl (.head _) rfl (by rw [hpf0]; rfl)))
   skip
   (((first | (with_reducible apply OL.op) | (with_reducible apply QL.op)); (exact Guard.au); rfl; rfl); (refine Pev.lookup_v (m := T.m) (v := .agg #[.int .i64 (d : Int), .int .i64 ix, .int .i64 (c0.many : Int)]) (zv := .agg #[.int .i64 0, .int .i64 0, .int .i64 0]) rfl (by (first | exact fun _ => rfl | exact fun h => h | (intro h; simp_all; done))) rfl (by (first | exact fun _ => rfl | exact fun h => h | (intro h; simp_all; done))) rfl rfl (fun w2 hw2 => (hT.at hw2 (by exact mau) hno1).map_) (by rw [hmg]; rfl)))
   apply qop; rfl; apply Pev.field; rfl; exact yes; rfl; rfl
   apply qop; rfl; apply Pev.idx; rfl; exact yes; rfl; exact yes; rfl; rfl; intro hcond; omega
   apply qop; rfl; apply Pev.fldA; rfl; exact yes; rfl
   apply qop; rfl; apply Pev.load_kept; rfl; exact yes; exact .head _; rfl; intro hcond; apply CellsAt.at_ (by assumption) rfl; intro hcond; (simp only [add_block]; assumption); intro hcond; exact NotOwned.au
   apply qop; rfl; apply Pev.len_slice; rfl; exact yes; rfl
   apply qmv; rfl; rfl
   apply QL.nil
   with_reducible apply At.next
   apply W.block
   have hH0 : ∀ k, k < w.heap.size → NotOwned [blk b0 55 [.slice (some ad) T.ds.length T.c, .map (some T.b)]] k := fun k hk => NotOwned.blk (by omega) .nil
   refine W.loop (G := Nat) (fun j => j ≤ cs.length ∧ ((cs.map Prod.fst).drop j).any (fun c => usefulE T.D f (narrow rows c.name c.many) (anys c.many ++ trow)) = (consOf T.D d).any (fun c => usefulE T.D f (narrow rows c.name c.many) (anys c.many ++ trow))) (fun j => cs.length - j)
    (fun j => [(1, true, .slice q rs.length cap), (2, true, .slice (some ar) (pt.length + 1) capr), (3, true, .pointer (some ⟨b0, 0, none⟩)), (115, true, .slice ud.2.q cs.length ud.2.cap), (116, true, .int .i64 (cs.length : Int)), (117, true, .int .i64 (j : Int))])
    (fun j => Cls [blk b0 55 [.slice (some ad) T.ds.length T.c, .map (some T.b)]] [w]) 0 ⟨Nat.zero_le _, by rw [k5]; rfl⟩ (by exact Sub.au) (fun w' hw' => hw'.thin (.any (fun k hk => ⟨Nat.le_trans hlo1 hk.1, trivial⟩) Thin.same)) ?_
   rintro j ⟨hj1, hj2⟩
   apply W.sr
   apply obn; rfl; rfl; rfl; apply Bin.lss
   apply OL.nx
   apply W.seq
   (refine W.cnd (fun hlt => ?_) (fun hlt => ?_)) <;> (try (exfalso; first | omega | exact hlt trivial | contradiction))
   ·obtain ⟨ac, uc, hq3, hab3, hu3, hcell3, hok3⟩ := k6.get (show j < cs.length by omega)
    have hab3 : ac.block < w.heap.size := hab3
    have hcell3 : CellsAt w (ac.add (j * 2)) [.string uc.1.name, .slice uc.2.1 uc.1.many uc.2.2] := hcell3
    have hdr : (cs.map Prod.fst).drop j = uc.1 :: (cs.map Prod.fst).drop (j + 1) := by
     have hl : j < (cs.map Prod.fst).length := by rw [List.length_map]; omega
     rw [List.drop_eq_getElem_cons hl]
     congr 1
     rw [List.getElem_map]
     rw [List.getElem?_eq_getElem (by omega)] at hu3
     rw [Option.some.inj hu3]
    have hcm : uc.1 ∈ consOf T.D d := by
     rw [k5]
     exact List.mem_map_of_mem (List.mem_of_getElem? hu3)
    have hcc := hcu d uc.1 hcm
    have hMw := use_any hcu hM1 hzf hab hall hcon hx0 hcm
    have hocc := occurs hcu hMr hall hcon hcm
    rw [hdr, List.any_cons] at hj2
    rw [hq3]
    apply W.sk
    apply W.sb
    apply W.sr
    apply oop; rfl; apply Pev.idx; rfl; exact yes; rfl; exact yes; rfl; rfl; intro hcond; omega
    apply oop; rfl; apply Pev.load_keptA; rfl; exact yes; exact .head _; rfl; intro hcond; assumption; rfl; intro hcond; (rw [add_block]; assumption); intro hcond; exact NotOwned.au
    apply OL.alloc; rfl; rfl; exact CellsL.agg; (intro bk hbk; simp only [AllLe, and_true] at hbk)
    apply OL.storeB; rfl; rfl; exact CellsL.agg; rfl; rfl; rfl; exact Swap.au; exact Put.au
    apply OL.nsr
    apply ofa; rfl; rfl; rfl
    apply old; rfl; rfl; exact .head _; rfl; rfl
    apply oop; rfl; apply Pev.len_slice; rfl; exact yes; rfl
    apply oas; rfl; rfl
    apply OL.nx
    apply W.seq
    revert bk
    intro b14 hb14
    have hH1 : ∀ k, k < w.heap.size → NotOwned [blk b14 86 [.string uc.1.name, .slice uc.2.1 uc.1.many uc.2.2], blk b0 55 [.slice (some ad) T.ds.length T.c, .map (some T.b)]] k := fun k hk => NotOwned.blk (by omega) (NotOwned.blk (by omega) .nil)
    (refine W.regm (by (repeat (first | exact ZSplit.nil | apply ZSplit.pure rfl | apply ZSplit.tail))) (by (repeat (first | exact Tag.nil | apply Tag.pu rfl | apply Tag.ef))) (by kernel_rfl) (by decide +kernel) (fun w hw => hw.drew) ?_)
    apply ZL.ld rfl; exact Guard.none; rfl; rfl; apply Pev.load_blkA; rfl; exact yes; exact .tail _ (.head _); rfl; exact Take.au
    apply ZL.op rfl; exact Guard.none; rfl; rfl; apply Pev.move; rfl; exact yes
    apply ZL.op rfl; exact Guard.none; rfl; rfl; apply Pev.fld; rfl; exact yes; rfl
    apply ZL.ld rfl; exact Guard.none; rfl; rfl; apply Pev.load_blk; rfl; exact yes; exact .head _; rfl; rfl
    apply ZL.op rfl; exact Guard.none; rfl; rfl; apply Pev.move; rfl; exact yes
    apply ZL.op rfl; exact Guard.none; rfl; rfl; apply Pev.move; rfl; exact yes
    apply ZL.op rfl; exact Guard.none; rfl; rfl; apply Pev.move; rfl; exact yes
    apply ZL.op rfl; exact Guard.none; rfl; rfl; apply Pev.slice_lo; rfl; exact yes; rfl; exact yes; rfl; rfl; intro hcond; (simp only [Bool.and_eq_true, Bool.or_eq_true, Bool.not_eq_true', decide_eq_true_eq, decide_eq_false_iff_not] at *; omega)
    apply ZL.nilM
    apply TM.one rfl
    refine OL.callE (α := GE × (Nat → Prop) × Nat) (fun gz => .slice gz.1.q gz.1.ps.length gz.1.c) (fun gz => gz.1.ps.map (fun r => r.1.map Prod.fst) = narrow rows uc.1.name uc.1.many ∧ gz.1.ps.length ≤ 100000 ∧ w.heap.size ≤ gz.2.2) (fun gz => Cls [row gz.2.2 gz.1.O gz.1.q gz.1.ps.length gz.1.c 25 1 (cat (patsE (fun p => TyO w (low w) p.1 p.2)).c gz.1.ps), pool (patsE (fun p => TyO w (low w) p.1 p.2)) gz.2.2 gz.2.1 gz.1.ps, blk b14 86 [.string uc.1.name, .slice uc.2.1 uc.1.many uc.2.2], blk b0 55 [.slice (some ad) T.ds.length T.c, .map (some T.b)]] [w]) rfl rfl (by exact Args.au) (fun w2 hw2 => ?_) ?_
    ·refine (narrow_calls q cap rs uc.1.name uc.1.many w w2 (hw2.toExt (.head _) (fun k hk => hH1 k hk)) (by omega) h hne (by omega) (hnsz uc.1.name)).mono ?_
     rintro e w3 ⟨g, O2, h1, h2, h3, h4⟩
     rw [hrows] at h2
     refine ⟨(g, O2, w2.heap.size), h1, ⟨h2, by simp only; omega, (hw2.kp w (.head _)).size⟩, hw2.over (h4.forget (fun s hs => by rw [List.mem_singleton] at hs; rw [hs]; exact .head _)) (fun i hi k hk => ?_)⟩
     rcases List.mem_cons.1 hi with rfl | hi
     ·exact hk.1
     ·rw [List.mem_singleton] at hi
      subst hi
      exact hk.1
    rintro ⟨⟨On, qn, cn, pn⟩, On2, lo3⟩ ⟨hpn, hpnl, hlo3⟩
    simp only at hpn hpnl hlo3 ⊢
    apply OL.nil
    refine At.tkm (fun w9 hw9 => hw9.thin (.any (fun k hk => ⟨Nat.le_trans hlo3 hk.1, trivial⟩) (.any (fun k hk => ⟨Nat.le_trans hlo3 hk.1, trivial⟩) Thin.same))) ?_
    apply TM.one rfl
    refine OL.callE (α := Option Addr × Nat × Nat) (fun gz => .slice gz.1 uc.1.many uc.1.many) (fun gz => w.heap.size ≤ gz.2.1) (fun gz => Cls [pile gz.2.1 (fun k => k < gz.2.2) [⟨gz.1, uc.1.many, cat tyR.c (List.replicate uc.1.many (anyT, ((none, 0) : PY)))⟩], row lo3 On qn pn.length cn 25 1 (cat (patsE (fun p => TyO w (low w) p.1 p.2)).c pn), pool (patsE (fun p => TyO w (low w) p.1 p.2)) lo3 On2 pn, blk b14 86 [.string uc.1.name, .slice uc.2.1 uc.1.many uc.2.2], blk b0 55 [.slice (some ad) T.ds.length T.c, .map (some T.b)]] [w]) rfl rfl (by exact Args.au) (fun w2 hw2 => (anys_calls uc.1.many w2 (by omega)).mono fun e w3 ⟨q, h1, h2, h3⟩ => ⟨(q, w2.heap.size, w3.heap.size), h1, (hw2.kp w (.head _)).size, Cls.fra hw2 h3 h2⟩) ?_
    rintro ⟨qa, loa, hia⟩ hloa
    simp only at hloa ⊢
    apply OL.nil
    refine At.tkm (fun w9 hw9 => hw9.thin (.any (fun k hk => ⟨Nat.le_trans hloa hk.1, trivial⟩) (.any (fun k hk => ⟨Nat.le_trans hlo3 hk.1, trivial⟩) (.any (fun k hk => ⟨Nat.le_trans hlo3 hk.1, trivial⟩) Thin.same)))) ?_
    apply TM.one rfl
    apply OL.buildSlice; rfl; rfl; rfl; exact Elems.au; rfl; rfl; (intro bk hbk; simp only [AllLe, and_true] at hbk)
    apply OL.nil
    revert bk
    intro bL hbL
    refine At.tkm (fun w9 hw9 => hw9.thin (.blk (by simp only [AllLe, and_true]; omega) (.any (fun k hk => ⟨Nat.le_trans hloa hk.1, trivial⟩) (.any (fun k hk => ⟨Nat.le_trans hlo3 hk.1, trivial⟩) (.any (fun k hk => ⟨Nat.le_trans hlo3 hk.1, trivial⟩) Thin.same))))) ?_
    apply TM.one rfl
    refine OL.callE (α := PY × Nat × Nat) (fun gz => .slice gz.1.1 (uc.1.many + (pt.length + 1 - 1)) gz.1.2) (fun gz => uc.1.many + (pt.length + 1 - 1) ≤ gz.1.2 ∧ w.heap.size ≤ gz.2.1) (fun gz => Cls [pile gz.2.1 (fun k => k < gz.2.2) [⟨gz.1.1, gz.1.2, cat tyR.c (List.replicate uc.1.many (anyT, ((none, 0) : PY)) ++ pt)⟩], blk bL 25 [.slice qa uc.1.many uc.1.many, .slice (cutq (some ar) capr 1 4) (pt.length + 1 - 1) (capr - 1)], pile loa (fun k => k < hia) [⟨qa, uc.1.many, cat tyR.c (List.replicate uc.1.many (anyT, ((none, 0) : PY)))⟩], row lo3 On qn pn.length cn 25 1 (cat (patsE (fun p => TyO w (low w) p.1 p.2)).c pn), pool (patsE (fun p => TyO w (low w) p.1 p.2)) lo3 On2 pn, blk b14 86 [.string uc.1.name, .slice uc.2.1 uc.1.many uc.2.2], blk b0 55 [.slice (some ad) T.ds.length T.c, .map (some T.b)]] [w]) rfl rfl (by exact Args.au) (fun w2 hw2 => ?_) ?_
    ·have hno2 : ∀ k, k < w.heap.size → NotOwned [blk bL 25 [.slice qa uc.1.many uc.1.many, .slice (cutq (some ar) capr 1 4) (pt.length + 1 - 1) (capr - 1)], pile loa (fun k => k < hia) [⟨qa, uc.1.many, cat tyR.c (List.replicate uc.1.many (anyT, ((none, 0) : PY)))⟩], row lo3 On qn pn.length cn 25 1 (cat (patsE (fun p => TyO w (low w) p.1 p.2)).c pn), pool (patsE (fun p => TyO w (low w) p.1 p.2)) lo3 On2 pn, blk b14 86 [.string uc.1.name, .slice uc.2.1 uc.1.many uc.2.2], blk b0 55 [.slice (some ad) T.ds.length T.c, .map (some T.b)]] k := fun k hk => NotOwned.blk (by omega) (NotOwned.pile (by omega) (NotOwned.row (by omega) (NotOwned.pool (by omega) (hH1 k hk))))
     refine (Concat2_calls bL (uc.1.many) (pt.length + 1 - 1) (List.replicate uc.1.many (anyT, ((none, 0) : PY))) pt qa (cutq (some ar) capr 1 4) uc.1.many (capr - 1) w2 (hw2.item (.head _)) List.length_replicate (by omega) (pile_arr (hw2.item (.tail _ (.head _))) (anyl_ok w2 _ uc.1.many)) (hdrop.at hw2 (.head _) hno2) (by omega)).mono ?_
     rintro e w3 ⟨q5, c5, h1, h2, h3, h4⟩
     exact ⟨((q5, c5), w2.heap.size, w3.heap.size), h1, ⟨h2, (hw2.kp w (.head _)).size⟩, Cls.fra hw2 h4 h3⟩
    rintro ⟨y5, lo5, hi5⟩ ⟨hy5, hlo5⟩
    simp only at hy5 hlo5 ⊢
    apply OL.nil
    refine At.tkm (fun w9 hw9 => hw9.thin (.any (fun k hk => ⟨Nat.le_trans hlo5 hk.1, trivial⟩) (.blk (by simp only [AllLe, and_true]; omega) (.any (fun k hk => ⟨Nat.le_trans hloa hk.1, trivial⟩) (.any (fun k hk => ⟨Nat.le_trans hlo3 hk.1, trivial⟩) (.any (fun k hk => ⟨Nat.le_trans hlo3 hk.1, trivial⟩) Thin.same)))))) ?_
    apply TM.one rfl
    (((first | (with_reducible apply OL.op) | (with_reducible apply QL.op)); (exact Guard.au); rfl; rfl); (refine Pev.call (v := .bool (usefulE T.D f (narrow rows uc.1.name uc.1.many) (anys uc.1.many ++ trow))) rfl (by exact Args.au) (fun _ w2 hw2 => ?_)))
    ·have hno2 : ∀ k, k < w.heap.size → NotOwned [pile lo5 (fun k => k < hi5) [⟨y5.1, y5.2, cat tyR.c (List.replicate uc.1.many (anyT, ((none, 0) : PY)) ++ pt)⟩], blk bL 25 [.slice qa uc.1.many uc.1.many, .slice (cutq (some ar) capr 1 4) (pt.length + 1 - 1) (capr - 1)], pile loa (fun k => k < hia) [⟨qa, uc.1.many, cat tyR.c (List.replicate uc.1.many (anyT, ((none, 0) : PY)))⟩], row lo3 On qn pn.length cn 25 1 (cat (patsE (fun p => TyO w (low w) p.1 p.2)).c pn), pool (patsE (fun p => TyO w (low w) p.1 p.2)) lo3 On2 pn, blk b14 86 [.string uc.1.name, .slice uc.2.1 uc.1.many uc.2.2], blk b0 55 [.slice (some ad) T.ds.length T.c, .map (some T.b)]] k := fun k hk => NotOwned.pile (by omega) (NotOwned.blk (by omega) (NotOwned.pile (by omega) (NotOwned.row (by omega) (NotOwned.pool (by omega) (hH1 k hk)))))
     have harr := pool_arr hw2 (.tail _ (.tail _ (.tail _ (.head _)))) (.tail _ (.tail _ (.tail _ (.tail _ (.head _))))) (hw2.toExt (.head _) hno2)
     have hmap : (pn.map fun r => (r.1.map Prod.fst, r.2)).map Prod.fst = narrow rows uc.1.name uc.1.many := by rw [List.map_map, ← hpn]; rfl
     have hrw : (List.replicate uc.1.many (anyT, ((none, 0) : PY)) ++ pt).map Prod.fst = anys uc.1.many ++ trow := by rw [List.map_append, hrow, anyl_map]
     have hrl : (List.replicate uc.1.many (anyT, ((none, 0) : PY)) ++ pt).length = uc.1.many + (pt.length + 1 - 1) := by rw [List.length_append, Nat.add_sub_cancel, List.length_replicate]
     have hrl2 : (anys uc.1.many ++ trow).length = uc.1.many + (pt.length + 1 - 1) := by rw [← hrw, List.length_map, hrl]
     have hpa : Arr tyR w2 (low w2) (List.replicate uc.1.many (anyT, ((none, 0) : PY)) ++ pt) y5.1 := pile_arr (hw2.item (.head _)) (fun p hp => Rel.at (R := tyR) ((List.mem_append.1 hp).elim (fun hp => anyl_ok w _ uc.1.many p hp) (fun hp => hr.el p (.tail _ hp))) hw2 (.head _) hno2)
     have hc := ih qn cn (pn.map fun r => (r.1.map Prod.fst, r.2)) y5.1 y5.2 (List.replicate uc.1.many (anyT, ((none, 0) : PY)) ++ pt) w2 (hT.at hw2 (.head _) hno2) (by rw [List.length_map]; exact hpnl) harr hpa (by rw [hrl]; exact hy5) (by rw [hmap, hrw, hrl, ← hrl2]; exact hMw.1) (by rw [hmap, hrw, hrl, ← hrl2]; have := hMw.2; omega) (by rw [hmap, hrw, hrl, ← hrl2]; have := hMw.2; omega)
     rw [hmap, hrw, List.length_map, hrl] at hc
     unfold TT.v at hc
     rw [k1] at hc
     exact hc.mono (fun e w3 h => ⟨h.1, hw2.ext h.2⟩)
    apply OL.nil
    with_reducible apply At.tnm; decide +kernel
    apply TM.nil
    with_reducible apply At.np
    with_reducible apply At.next
    refine W.cond rfl (fun hb => ?_) (fun hb => ?_)
    ·have hb : usefulE T.D f (narrow rows uc.1.name uc.1.many) (anys uc.1.many ++ trow) = true := hb
     rw [hb, Bool.true_or] at hj2
     rw [← hj2]
     apply W.sr
     apply oas; rfl; rfl
     apply OL.nx
     refine W.rt ?_
     ((with_reducible apply At.fin1); rfl; rfl; intro w' hw')
     exact ⟨rfl, hw'.toExt (s := w) (.head _) (fun k hk => NotOwned.pile (by omega) (NotOwned.blk (by omega) (NotOwned.pile (by omega) (NotOwned.row (by omega) (NotOwned.pool (by omega) (hH1 k hk))))))⟩
    ·have hb : usefulE T.D f (narrow rows uc.1.name uc.1.many) (anys uc.1.many ++ trow) = false := hb
     rw [hb, Bool.false_or] at hj2
     apply W.skip
     with_reducible apply At.in_normal
     with_reducible apply At.next
     apply W.reg
     apply obn; rfl; rfl; rfl; apply Bin.add_in; omega
     apply omv; rfl; rfl
     apply OL.nil
     exact At.again (j + 1) ⟨by omega, hj2⟩ (by omega) (by exact Sub.au) (fun w' hw' => hw'.thin (.any (fun k hk => ⟨Nat.le_trans hlo5 hk.1, trivial⟩) (.blk (by simp only [AllLe, and_true]; omega) (.any (fun k hk => ⟨Nat.le_trans hloa hk.1, trivial⟩) (.any (fun k hk => ⟨Nat.le_trans hlo3 hk.1, trivial⟩) (.any (fun k hk => ⟨Nat.le_trans hlo3 hk.1, trivial⟩) (.blk (by simp only [AllLe, and_true]; omega) Thin.same)))))))
   ·rw [List.drop_eq_nil_of_le (by rw [List.length_map]; omega), List.any_nil] at hj2
    rw [← hj2]
    refine W.xt ?_
    with_reducible apply At.next
    apply W.sr
    apply oas; rfl; rfl
    apply OL.nx
    apply W.ret
    ((with_reducible apply At.fin1); rfl; rfl; intro w' hw')
    exact ⟨rfl, by (exact hw'.fr)⟩
end Go.Proofs.Ytleggdmhihcafaa.pt

/- The walks of patterns' Check, Missing and Redundant. Conditions: none. -/
namespace Go.Pt
open Go.Eng Go.RowKit
def badC (R : List (List Ty)) (c : Int) : Bool := match R with
 | [] => false
 | r :: _ => decide (c ≠ (r.length : Int))
def missR (D : List Da) (R : List (List Ty)) (c : Int) : List Ty × Int :=
 if checkE D R ≠ 0 then ([], checkE D R) else if c < 0 ∨ 16 < c ∨ badC R c = true then ([], 1) else ((if (missingE D (wtR R + c.toNat + 1) R c.toNat).2 then (missingE D (wtR R + c.toNat + 1) R c.toNat).1 else []), 0)
theorem check_mat {D : List Da} {R : List (List Ty)} {c : Int} (h : checkE D R = 0) (hc : ¬ (c < 0 ∨ 16 < c ∨ badC R c = true)) : Uniq D ∧ R.length ≤ 64 ∧ wtR R ≤ 800 ∧ Mat D R c.toNat := by
 obtain ⟨h1, h2, h3, cols, h4, h5, h6⟩ := checkE_ok h
 refine ⟨h1, h2, h3, ?_⟩
 cases R with
 | nil => exact ⟨fun r hr => (by cases hr), fun r hr => (by cases hr), fun k => Agr.nil⟩
 | cons r0 rs =>
  have e := h4 r0 rs rfl
  have : badC (r0 :: rs) c = false := by
   cases hb : badC (r0 :: rs) c with
   | false => rfl
   | true => exact absurd (.inr (.inr hb)) hc
  simp only [badC, decide_eq_false_iff_not, Decidable.not_not] at this
  rw [show c.toNat = cols by omega]
  exact h6
end Go.Pt
namespace Go.Proofs.Ytleggdmhihcafaa.pt
open Go.RowKit Go.Eng Go.Pt
set_option maxRecDepth 100000
theorem Check_calls (qd : Option Addr) (cd : Nat) (ds : List (Da × DY)) (q : Option Addr) (cap : Nat) (rs : List (List Ty × PY)) (w : World) (hdl : ds.length ≤ 9223372036854775807) (hd : Arr datR w (low w) ds qd) (hlen : rs.length ≤ 9223372036854775807) (h : Arr patsR w (low w) rs q) :
  Calls Try.prog 8 [.slice qd ds.length cd, .slice q rs.length cap].toArray w fun e w' => e = .returned (.int .i64 (checkE (ds.map Prod.fst) (rs.map Prod.fst))) ∧ Ext w w' := by
 refine enter Try.func8 rfl Try.ntmps8 rfl (Cls.start w) ?_
 obtain ⟨D, hD⟩ : ∃ D, ds.map Prod.fst = D := ⟨_, rfl⟩
 obtain ⟨R, hR⟩ : ∃ R, rs.map Prod.fst = R := ⟨_, rfl⟩
 rw [hD, hR]
 (simp only [argEnv, Nat.zero_add, Nat.reduceAdd])
 apply W.sr
 apply oas; rfl; rfl
 apply OL.nsr
 apply omv; rfl; rfl
 apply omv; rfl; rfl
 refine OL.callE (α := (Option Addr × Nat × Nat) × Option Nat) (fun z => .tuple #[.agg #[.slice z.1.1 z.1.2.1 z.1.2.2, .map z.2], .int .i64 (checkE D R)]) (fun T => True) (fun T => Cls [] [w]) rfl rfl (by exact Args.au) (fun w2 hw2 => ?_) ?_
 ·refine (check_calls qd cd ds q cap rs w2 hdl (hd.at hw2 (.head _) (fun k hk => by exact NotOwned.au)) hlen (h.at hw2 (.head _) (fun k hk => by exact NotOwned.au))).mono (fun e w3 h => ?_)
  rw [hD, hR] at h
  by_cases h0 : checkE D R = 0
  ·rw [if_pos h0] at h
   obtain ⟨hx, T, h1, h2, h3⟩ := h
   exact ⟨((T.q, T.ds.length, T.c), some T.b), by rw [h3, h0]; rfl, trivial, hw2.ext hx⟩
  ·rw [if_neg h0] at h
   exact ⟨((none, 0, 0), none), h.2, trivial, hw2.ext h.1⟩
 rintro ⟨⟨q1, n1, c1⟩, m1⟩ _
 apply omv; rfl; rfl
 apply oex; rfl; rfl; rfl
 apply oex; rfl; rfl; rfl
 apply OL.alloc; rfl; rfl; exact CellsL.agg; (intro bk hbk; simp only [AllLe, and_true] at hbk)
 apply OL.storeB; rfl; rfl; exact CellsL.agg; rfl; rfl; rfl; exact Swap.au; exact Put.au
 apply oas; rfl; rfl
 apply OL.nsr
 apply omv; rfl; rfl
 apply oas; rfl; rfl
 apply OL.nx
 apply W.ret
 ((with_reducible apply At.fin1); rfl; rfl; intro w' hw')
 exact ⟨rfl, by (exact hw'.fr)⟩
theorem Missing_calls (qd : Option Addr) (cd : Nat) (ds : List (Da × DY)) (q : Option Addr) (cap : Nat) (rs : List (List Ty × PY)) (c : Int) (w : World) (hdl : ds.length ≤ 9223372036854775807) (hd : Arr datR w (low w) ds qd) (hlen : rs.length ≤ 9223372036854775807) (h : Arr patsR w (low w) rs q) :
  Calls Try.prog 7 [.slice qd ds.length cd, .slice q rs.length cap, .int .i64 c].toArray w fun e w' => ∃ q' c' ps, e = .returned (.tuple #[.slice q' ps.length c', .int .i64 (missR (ds.map Prod.fst) (rs.map Prod.fst) c).2]) ∧ ps.map Prod.fst = (missR (ds.map Prod.fst) (rs.map Prod.fst) c).1 ∧ ps.length ≤ c' ∧ ps.length ≤ 16 ∧ Arr tyR w' (fresh w w') ps q' ∧ Ext w w' := by
 refine enter Try.func7 rfl Try.ntmps7 rfl (Cls.start w) ?_
 obtain ⟨D, hD⟩ : ∃ D, ds.map Prod.fst = D := ⟨_, rfl⟩
 obtain ⟨R, hR⟩ : ∃ R, rs.map Prod.fst = R := ⟨_, rfl⟩
 have hRl : R.length = rs.length := by rw [← hR, List.length_map]
 rw [hD, hR]
 (simp only [argEnv, Nat.zero_add, Nat.reduceAdd])
 apply W.sr
 apply oas; rfl; rfl
 apply oas; rfl; rfl
 apply OL.nsr
 apply omv; rfl; rfl
 apply omv; rfl; rfl
 by_cases h0 : checkE D R ≠ 0
 ·have hm : missR D R c = ([], checkE D R) := by unfold missR; rw [if_pos h0]
  rw [hm]
  refine OL.callE (α := Unit) (fun z => .tuple #[.agg #[.slice none 0 0, .map none], .int .i64 (checkE D R)]) (fun T => True) (fun T => Cls [] [w]) rfl rfl (by exact Args.au) (fun w2 hw2 => ?_) ?_
  ·refine (check_calls qd cd ds q cap rs w2 hdl (hd.at hw2 (.head _) (fun k hk => by exact NotOwned.au)) hlen (h.at hw2 (.head _) (fun k hk => by exact NotOwned.au))).mono (fun e w3 h => ?_)
   rw [hD, hR, if_neg h0] at h
   exact ⟨(), h.2, trivial, hw2.ext h.1⟩
  intro _ _
  apply omv; rfl; rfl
  apply oex; rfl; rfl; rfl
  apply oex; rfl; rfl; rfl
  apply OL.alloc; rfl; rfl; exact CellsL.agg; (intro bk hbk; simp only [AllLe, and_true] at hbk)
  apply OL.storeB; rfl; rfl; exact CellsL.agg; rfl; rfl; rfl; exact Swap.au; exact Put.au
  apply oas; rfl; rfl
  apply OL.nx
  apply W.sb
  apply W.sr
  apply omv; rfl; rfl
  apply obn; rfl; rfl; rfl; apply Bin.neq
  apply oas; rfl; rfl
  apply OL.nx
  refine W.cond rfl (fun _ => ?_) (fun hb => by simp at hb; omega)
  apply W.sr
  apply omv; rfl; rfl
  apply oas; rfl; rfl
  apply oas; rfl; rfl
  apply OL.nx
  refine W.rt ?_
  ((with_reducible apply At.fin2); rfl; rfl; rfl; intro w' hw')
  exact ⟨none, 0, [], rfl, rfl, Nat.le_refl _, Nat.zero_le _, Arr.nil, by (exact hw'.fr)⟩
 have h0 : checkE D R = 0 := Decidable.not_not.1 h0
 refine OL.callE (α := TT × World) (fun z => .tuple #[.agg #[.slice z.1.q z.1.ds.length z.1.c, .map (some z.1.b)], .int .i64 0]) (fun z => z.1.ds = ds ∧ z.1.ok z.2 ∧ Ext w z.2) (fun z => Cls [] [z.2, w]) rfl rfl (by exact Args.au) (fun w2 hw2 => ?_) ?_
 ·refine (check_calls qd cd ds q cap rs w2 hdl (hd.at hw2 (.head _) (fun k hk => by exact NotOwned.au)) hlen (h.at hw2 (.head _) (fun k hk => by exact NotOwned.au))).mono (fun e w3 h => ?_)
  rw [hD, hR, if_pos h0] at h
  obtain ⟨hx, T, h1, h2, h3⟩ := h
  exact ⟨(T, w3), h3, ⟨h1, h2, (hw2.ext hx).toExt (.head _) (fun k hk => .nil)⟩, (hw2.ext hx).note⟩
 rintro ⟨T, w1⟩ ⟨hTd, hT1, hx1⟩
 simp only at hTd hT1 hx1 ⊢
 have hw1s := hx1.size
 have hTD : T.D = D := by rw [← hD, ← hTd]; rfl
 apply omv; rfl; rfl
 apply oex; rfl; rfl; rfl
 apply oex; rfl; rfl; rfl
 apply OL.alloc; rfl; rfl; exact CellsL.agg; (intro bk hbk; simp only [AllLe, and_true] at hbk)
 apply OL.storeB; rfl; rfl; exact CellsL.agg; rfl; rfl; rfl; exact Swap.au; exact Put.au
 apply oas; rfl; rfl
 apply OL.nx
 apply W.sb
 apply W.sr
 apply omv; rfl; rfl
 apply obn; rfl; rfl; rfl; apply Bin.neq
 apply oas; rfl; rfl
 apply OL.nx
 refine W.cond rfl (fun hb => by simp at hb) (fun _ => ?_)
 by_cases hr0 : rs.length = 0
 ·have hbc : badC R c = false := by
   cases R with
   | nil => rfl
   | cons r t => simp at hRl; omega
  simp only [hr0]
  apply W.sr
  apply omv; rfl; rfl
  apply obn; rfl; rfl; rfl; apply Bin.lss
  apply omv; rfl; rfl
  apply ono; rfl; rfl; rfl; apply Pev.move; rfl; exact yes
  apply ono; rfl; rfl; rfl; apply Pev.bin; rfl; exact fun h => h; rfl; exact yes; intro hcond; apply Bin.gtr
  apply oop; rfl; apply Pev.pick_or; rfl; exact yes; rfl; exact fun h => h
  apply omv; rfl; rfl
  apply ono; rfl; rfl; rfl; apply Pev.move; rfl; exact yes
  apply ono; rfl; rfl; rfl; apply Pev.len_slice; rfl; exact fun h => h; rfl
  apply ono; rfl; rfl; rfl; apply Pev.bin; rfl; exact fun h => h; rfl; exact yes; intro hcond; apply Bin.gtr
  apply ono; rfl; rfl; rfl; apply Pev.move; rfl; exact fun h => h
  apply OL.op; exact Guard.cyes rfl rfl; rfl; rfl; apply Pev.move; rfl; exact yes
  apply OL.op; exact Guard.cyes rfl rfl; rfl; rfl; apply Pev.move; rfl; exact yes
  apply OL.gateOff; exact Guard.cyes rfl rfl; (focus (simp; done)); rfl
  apply OL.gateOff; exact Guard.cyes rfl rfl; (focus (simp; done)); rfl
  apply OL.gateOff; exact Guard.cyes rfl rfl; (focus (simp; done)); rfl
  apply OL.gateOff; exact Guard.cyes rfl rfl; (focus (simp; done)); rfl
  apply ono; rfl; rfl; rfl; apply Pev.pick_off; rfl; exact fun h => h; (intro hcond; rfl); rfl; exact yes
  apply oop; rfl; apply Pev.pick_or; rfl; exact yes; rfl; exact fun h => h
  apply oas; rfl; rfl
  apply OL.nx
  refine W.cond rfl (fun hb => ?_) (fun hb => ?_)
  ·have hbad : c < 0 ∨ 16 < c ∨ badC R c = true := by
    rw [hbc]
    simpa [or_assoc] using hb
   have hm : missR D R c = ([], 1) := by unfold missR; rw [if_neg (by simp [h0]), if_pos hbad]
   rw [hm]
   apply W.sr
   apply oas; rfl; rfl
   apply oas; rfl; rfl
   apply OL.nx
   refine W.rt ?_
   ((with_reducible apply At.fin2); rfl; rfl; rfl; intro w' hw')
   exact ⟨none, 0, [], rfl, rfl, Nat.le_refl _, Nat.zero_le _, Arr.nil, hw'.toExt (s := w) (.tail _ (.head _)) (fun k hk => NotOwned.blk (by omega) .nil)⟩
  have hgood : ¬ (c < 0 ∨ 16 < c ∨ badC R c = true) := by
   rw [hbc]
   simpa [or_assoc, not_or, and_assoc] using hb
  obtain ⟨hU, hR64, hwt, hM⟩ := check_mat h0 hgood
  have hcn : c = ((c.toNat : Nat) : Int) := by omega
  have hm : missR D R c = ((if (missingE D (wtR R + c.toNat + 1) R c.toNat).2 then (missingE D (wtR R + c.toNat + 1) R c.toNat).1 else []), 0) := by unfold missR; rw [if_neg (by simp [h0]), if_neg hgood]
  rw [hm]
  apply W.skip
  with_reducible apply At.in_normal
  with_reducible apply At.next
  apply W.sr
  apply oop; rfl; apply Pev.load_blkA; rfl; exact yes; exact .head _; rfl; exact Take.au
  apply omv; rfl; rfl
  apply omv; rfl; rfl
  have hH1 : ∀ k, k < w1.heap.size → NotOwned [blk bk 55 [.slice T.q T.ds.length T.c, .map (some T.b)]] k := fun k hk => NotOwned.blk (by omega) .nil
  obtain ⟨ms, hms⟩ : ∃ ms, missingE D (wtR R + c.toNat + 1) R c.toNat = ms := ⟨_, rfl⟩
  rw [hms]
  refine OL.callE (α := (Option Addr × Nat × List (Ty × PY)) × Nat × Nat) (fun z => .tuple #[.slice z.1.1 z.1.2.2.length z.1.2.1, .bool ms.2]) (fun z => z.1.2.2.map Prod.fst = ms.1 ∧ z.1.2.2.length ≤ z.1.2.1 ∧ z.1.2.2.length ≤ c.toNat ∧ w1.heap.size ≤ z.2.1) (fun z => Cls [arrI z.2.1 (fun k => k < z.2.2) z.1.2.2 z.1.1, blk bk 55 [.slice T.q T.ds.length T.c, .map (some T.b)]] [w1, w]) rfl rfl (by exact Args.au) (fun w2 hw2 => ?_) ?_
  ·have hc := missing_calls T (wtR R + c.toNat + 1) q cap c.toNat rs w2 (hT1.at hw2 (.head _) hH1) (by omega) ((h).at hw2 (.tail _ (.head _)) (fun k hk => hH1 k (by omega))) (by rw [hTD, hR]; exact hM) (by rw [hR]; omega) (by rw [hR]; omega)
   rw [hTD, hR, hms, ← hcn, hr0] at hc
   refine hc.mono ?_
   rintro e w3 ⟨q', c', ps, h1, h2, h3, h4, h5, h6⟩
   exact ⟨((q', c', ps), w2.heap.size, w3.heap.size), h1, ⟨h2, h3, h4, (hw2.kp w1 (.head _)).size⟩, Cls.arrI hw2 h6 h5⟩
  rintro ⟨⟨q4, c4, p4⟩, lo4, hi4⟩ ⟨hp4, hp4c, hp4l, hlo4⟩
  simp only at hp4 hp4c hp4l hlo4 ⊢
  apply omv; rfl; rfl
  apply oex; rfl; rfl; rfl
  apply oex; rfl; rfl; rfl
  apply oas; rfl; rfl
  apply oas; rfl; rfl
  apply OL.nx
  apply W.seq
  apply W.sr
  apply omv; rfl; rfl
  apply oop; rfl; apply Pev.not; rfl; exact yes
  apply OL.nx
  have hHx : ∀ k, k < w.heap.size → NotOwned [arrI lo4 (fun k => k < hi4) p4 q4, blk bk 55 [.slice T.q T.ds.length T.c, .map (some T.b)]] k := fun k hk => NotOwned.arrI (by omega) (hH1 k (by omega))
  refine W.cond rfl (fun hb => ?_) (fun hb => ?_)
  ·have hb : ms.2 = false := by simpa using hb
   rw [if_neg (by rw [hb]; decide)]
   apply W.sr
   apply oas; rfl; rfl
   apply oas; rfl; rfl
   apply OL.nx
   refine W.rt ?_
   ((with_reducible apply At.fin2); rfl; rfl; rfl; intro w' hw')
   exact ⟨none, 0, [], rfl, rfl, Nat.le_refl _, Nat.zero_le _, Arr.nil, hw'.toExt (s := w) (.tail _ (.head _)) hHx⟩
  ·have hb : ms.2 = true := by simpa using hb
   rw [if_pos hb]
   apply W.sk
   apply W.sr
   apply omv; rfl; rfl
   apply oas; rfl; rfl
   apply oas; rfl; rfl
   apply OL.nx
   apply W.ret
   ((with_reducible apply At.fin2); rfl; rfl; rfl; intro w' hw')
   refine ⟨q4, c4, p4, rfl, hp4, hp4c, by omega, Arr.mono (fun k hk => ⟨by have := hk.1; omega, hw'.lt (arrI lo4 (fun k => k < hi4) p4 q4) (.head _) k hk⟩) (hw'.item (i := arrI lo4 (fun k => k < hi4) p4 q4) (.head _)), hw'.toExt (s := w) (.tail _ (.head _)) hHx⟩
 obtain ⟨a, u, hqa, hab, hu, hcell, hok⟩ := h.get (i := 0) (by omega)
 have hcell : w.cell? (a.add (0 * 1)) = some (.slice u.2.1 u.1.length u.2.2) := hcell 0 _ rfl
 have hbc : badC R c = decide (c ≠ (u.1.length : Int)) := by
  have hRu : R[0]? = some u.1 := by rw [← hR, List.getElem?_map, hu]; rfl
  cases R with
  | nil => cases hRu
  | cons r t =>
   simp only [List.getElem?_cons_zero, Option.some.injEq] at hRu
   subst hRu
   rfl
 rw [hqa]
 apply W.sr
 apply omv; rfl; rfl
 apply obn; rfl; rfl; rfl; apply Bin.lss
 apply omv; rfl; rfl
 apply ono; rfl; rfl; rfl; apply Pev.move; rfl; exact yes
 apply ono; rfl; rfl; rfl; apply Pev.bin; rfl; exact fun h => h; rfl; exact yes; intro hcond; apply Bin.gtr
 apply oop; rfl; apply Pev.pick_or; rfl; exact yes; rfl; exact fun h => h
 apply omv; rfl; rfl
 apply ono; rfl; rfl; rfl; apply Pev.move; rfl; exact yes
 apply ono; rfl; rfl; rfl; apply Pev.len_slice; rfl; exact fun h => h; rfl
 apply ono; rfl; rfl; rfl; apply Pev.bin; rfl; exact fun h => h; rfl; exact yes; intro hcond; apply Bin.gtr
 apply ono; rfl; rfl; rfl; apply Pev.move; rfl; exact fun h => h
 apply OL.op; exact Guard.cyes rfl rfl; rfl; rfl; apply Pev.move; rfl; exact yes
 apply OL.op; exact Guard.cyes rfl rfl; rfl; rfl; apply Pev.move; rfl; exact yes
 apply OL.op; exact Guard.cyes rfl rfl; rfl; rfl; apply Pev.idx; rfl; exact fun h => h; rfl; exact yes; rfl; rfl; intro hcond; (simp only [Bool.and_eq_true, Bool.or_eq_true, Bool.not_eq_true', decide_eq_true_eq, decide_eq_false_iff_not] at *; omega)
 apply OL.op; exact Guard.cyes rfl rfl; rfl; rfl; apply Pev.load_kept; rfl; exact fun h => h; exact .tail _ (.head _); rfl; intro hcond; assumption; intro hcond; assumption; intro hcond; exact NotOwned.au
 apply OL.op; exact Guard.cyes rfl rfl; rfl; rfl; apply Pev.len_slice; rfl; exact fun h => h; rfl
 apply OL.op; exact Guard.cyes rfl rfl; rfl; rfl; apply Pev.bin; rfl; exact fun h => h; rfl; exact fun h => h; intro hcond; apply Bin.neq
 apply ono; rfl; rfl; rfl; apply Pev.pick_and; rfl; exact fun h => h; rfl; exact fun h => h
 apply oop; rfl; apply Pev.pick_or; rfl; exact yes; rfl; exact fun h => h
 apply oas; rfl; rfl
 apply OL.nx
 refine W.cond rfl (fun hb => ?_) (fun hb => ?_)
 ·have hbad : c < 0 ∨ 16 < c ∨ badC R c = true := by
   rw [hbc]
   rw [show decide ((0 : Int) < (rs.length : Int)) = true by simp; omega, Bool.true_and] at hb
   simpa [or_assoc] using hb
  have hm : missR D R c = ([], 1) := by unfold missR; rw [if_neg (by simp [h0]), if_pos hbad]
  rw [hm]
  apply W.sr
  apply oas; rfl; rfl
  apply oas; rfl; rfl
  apply OL.nx
  refine W.rt ?_
  ((with_reducible apply At.fin2); rfl; rfl; rfl; intro w' hw')
  exact ⟨none, 0, [], rfl, rfl, Nat.le_refl _, Nat.zero_le _, Arr.nil, hw'.toExt (s := w) (.tail _ (.head _)) (fun k hk => NotOwned.blk (by omega) .nil)⟩
 have hgood : ¬ (c < 0 ∨ 16 < c ∨ badC R c = true) := by
  rw [hbc]
  rw [show decide ((0 : Int) < (rs.length : Int)) = true by simp; omega, Bool.true_and] at hb
  simpa [or_assoc, not_or, and_assoc] using hb
 obtain ⟨hU, hR64, hwt, hM⟩ := check_mat h0 hgood
 have hcn : c = ((c.toNat : Nat) : Int) := by omega
 have hm : missR D R c = ((if (missingE D (wtR R + c.toNat + 1) R c.toNat).2 then (missingE D (wtR R + c.toNat + 1) R c.toNat).1 else []), 0) := by unfold missR; rw [if_neg (by simp [h0]), if_neg hgood]
 rw [hm]
 apply W.skip
 with_reducible apply At.in_normal
 with_reducible apply At.next
 apply W.sr
 apply oop; rfl; apply Pev.load_blkA; rfl; exact yes; exact .head _; rfl; exact Take.au
 apply omv; rfl; rfl
 apply omv; rfl; rfl
 have hH1 : ∀ k, k < w1.heap.size → NotOwned [blk bk 55 [.slice T.q T.ds.length T.c, .map (some T.b)]] k := fun k hk => NotOwned.blk (by omega) .nil
 obtain ⟨ms, hms⟩ : ∃ ms, missingE D (wtR R + c.toNat + 1) R c.toNat = ms := ⟨_, rfl⟩
 rw [hms]
 refine OL.callE (α := (Option Addr × Nat × List (Ty × PY)) × Nat × Nat) (fun z => .tuple #[.slice z.1.1 z.1.2.2.length z.1.2.1, .bool ms.2]) (fun z => z.1.2.2.map Prod.fst = ms.1 ∧ z.1.2.2.length ≤ z.1.2.1 ∧ z.1.2.2.length ≤ c.toNat ∧ w1.heap.size ≤ z.2.1) (fun z => Cls [arrI z.2.1 (fun k => k < z.2.2) z.1.2.2 z.1.1, blk bk 55 [.slice T.q T.ds.length T.c, .map (some T.b)]] [w1, w]) rfl rfl (by exact Args.au) (fun w2 hw2 => ?_) ?_
 ·have hc := missing_calls T (wtR R + c.toNat + 1) (some a) cap c.toNat rs w2 (hT1.at hw2 (.head _) hH1) (by omega) (((by rw [← hqa]; exact h : Arr patsR w (low w) rs (some a))).at hw2 (.tail _ (.head _)) (fun k hk => hH1 k (by omega))) (by rw [hTD, hR]; exact hM) (by rw [hR]; omega) (by rw [hR]; omega)
  rw [hTD, hR, hms, ← hcn] at hc
  refine hc.mono ?_
  rintro e w3 ⟨q', c', ps, h1, h2, h3, h4, h5, h6⟩
  exact ⟨((q', c', ps), w2.heap.size, w3.heap.size), h1, ⟨h2, h3, h4, (hw2.kp w1 (.head _)).size⟩, Cls.arrI hw2 h6 h5⟩
 rintro ⟨⟨q4, c4, p4⟩, lo4, hi4⟩ ⟨hp4, hp4c, hp4l, hlo4⟩
 simp only at hp4 hp4c hp4l hlo4 ⊢
 apply omv; rfl; rfl
 apply oex; rfl; rfl; rfl
 apply oex; rfl; rfl; rfl
 apply oas; rfl; rfl
 apply oas; rfl; rfl
 apply OL.nx
 apply W.seq
 apply W.sr
 apply omv; rfl; rfl
 apply oop; rfl; apply Pev.not; rfl; exact yes
 apply OL.nx
 have hHx : ∀ k, k < w.heap.size → NotOwned [arrI lo4 (fun k => k < hi4) p4 q4, blk bk 55 [.slice T.q T.ds.length T.c, .map (some T.b)]] k := fun k hk => NotOwned.arrI (by omega) (hH1 k (by omega))
 refine W.cond rfl (fun hb => ?_) (fun hb => ?_)
 ·have hb : ms.2 = false := by simpa using hb
  rw [if_neg (by rw [hb]; decide)]
  apply W.sr
  apply oas; rfl; rfl
  apply oas; rfl; rfl
  apply OL.nx
  refine W.rt ?_
  ((with_reducible apply At.fin2); rfl; rfl; rfl; intro w' hw')
  exact ⟨none, 0, [], rfl, rfl, Nat.le_refl _, Nat.zero_le _, Arr.nil, hw'.toExt (s := w) (.tail _ (.head _)) hHx⟩
 ·have hb : ms.2 = true := by simpa using hb
  rw [if_pos hb]
  apply W.sk
  apply W.sr
  apply omv; rfl; rfl
  apply oas; rfl; rfl
  apply oas; rfl; rfl
  apply OL.nx
  apply W.ret
  ((with_reducible apply At.fin2); rfl; rfl; rfl; intro w' hw')
  refine ⟨q4, c4, p4, rfl, hp4, hp4c, by omega, Arr.mono (fun k hk => ⟨by have := hk.1; omega, hw'.lt (arrI lo4 (fun k => k < hi4) p4 q4) (.head _) k hk⟩) (hw'.item (i := arrI lo4 (fun k => k < hi4) p4 q4) (.head _)), hw'.toExt (s := w) (.tail _ (.head _)) hHx⟩
end Go.Proofs.Ytleggdmhihcafaa.pt

/- The walk of match.Compile. Conditions: none. -/
namespace Go.Pt
open Go.Eng Go.RowKit
def rowsFrom : Nat → List (List Ty) → List RowP
 | _, [] => []
 | k, r :: R => ((k : Int), r) :: rowsFrom (k + 1) R
def paths0 (R : List (List Ty)) : List (List Int) := match R with
 | [] => []
 | r :: _ => (List.range r.length).map fun (k : Nat) => [(k : Int)]
theorem rowsFrom_snoc (r : List Ty) : ∀ (k : Nat) (R : List (List Ty)), rowsFrom k (R ++ [r]) = rowsFrom k R ++ [(((k + R.length : Nat) : Int), r)]
 | k, [] => rfl
 | k, x :: R => by
  rw [List.cons_append, rowsFrom, rowsFrom, rowsFrom_snoc r (k + 1) R, List.cons_append, List.length_cons, show k + 1 + R.length = k + (R.length + 1) by omega]
theorem rowsFrom_rows : ∀ (k : Nat) (R : List (List Ty)), rowsOf (rowsFrom k R) = R
 | _, [] => rfl
 | k, r :: R => by
  show r :: rowsOf (rowsFrom (k + 1) R) = _
  rw [rowsFrom_rows (k + 1) R]
def st0 : St := ⟨[], 0, false⟩
def compB (D : List Da) (R : List (List Ty)) : St × Int := buildE D (wtR R + 1) st0 (rowsFrom 0 R) (paths0 R)
def compT (D : List Da) (R : List (List Ty)) : List Nd := (compB D R).1.out.take ((compB D R).2.toNat + 1)
theorem addN_idx (s : St) (t : Nd) : ∃ k : Nat, (addN s t).2 = (k : Int) ∧ k < (addN s t).1.out.length := by
 unfold addN
 split
 ·rename_i h
  unfold idN at h ⊢
  rcases idxP_cases (fun x => sameN x t) s.out 0 with ⟨h1, _⟩ | ⟨i, x, h1, _, h3, _⟩
  ·omega
  ·exact ⟨i, by rw [h3, Nat.zero_add], (List.getElem?_eq_some_iff.1 h1).1⟩
 ·exact ⟨s.out.length, rfl, by simp⟩
theorem buildE_idx (D : List Da) (f : Nat) (s : St) (rows : List RowP) (paths : List (List Int)) : ∃ k : Nat, (buildE D (f + 1) s rows paths).2 = (k : Int) ∧ k < (buildE D (f + 1) s rows paths).1.out.length := by
 cases rows with
 | nil => exact addN_idx _ _
 | cons r rs =>
  rw [buildE]
  split
  ·exact addN_idx _ _
  split
  ·exact addN_idx _ _
  unfold nodeE
  split
  ·exact addN_idx _ _
  ·unfold consE
   split
   ·exact addN_idx _ _
   ·exact addN_idx _ _
structure NdS (s : World) (L : List (Addr × List Value)) (x : NdE) : Prop where
 p : Seen s L x.2.p.1 (intV x.1.path)
 n : Seen s L x.2.n.1 (strs x.1.names)
 d : Seen s L x.2.w.1 (intV x.1.words)
 k : Seen s L x.2.k.1 (intV x.1.kids)
 l : NdLen x.1
 cn : x.1.names.length ≤ x.2.n.2
 cw : x.1.words.length ≤ x.2.w.2
theorem NdS.mono {s : World} {L L' : List (Addr × List Value)} {x : NdE} (h : NdS s L x) (hL : ∀ x ∈ L, x ∈ L') : NdS s L' x := ⟨h.p.mono hL, h.n.mono hL, h.d.mono hL, h.k.mono hL, h.l, h.cn, h.cw⟩
theorem cat_setP {ts : List NdE} {j : Nat} {x : NdE} (hx : ts[j]? = some x) (pv : PY) : putL (cat ndC ts) (0 + j * 6 + 2) [.slice pv.1 x.1.path.length pv.2] = cat ndC (ts.set j (x.1, ⟨pv, x.2.n, x.2.w, x.2.k⟩)) := by
 have hl := (List.getElem?_eq_some_iff.1 hx).1
 have hcl : (cat ndC ts).length = ts.length * 6 := cat_length ndC_len ts
 rw [← cat_set (f := ndC) (sz := 6) ndC_len (by decide) hl]
 refine List.ext_getElem? fun n => ?_
 rw [putL_get _ _ _ _ (by rw [List.length_singleton]; omega), putL_get _ _ _ _ (by rw [ndC_len]; omega), List.length_singleton, ndC_len]
 by_cases h1 : j * 6 ≤ n ∧ n < j * 6 + 6
 ·rw [if_pos h1]
  have h2 : ∀ m v, (ndC x)[m]? = some v → (cat ndC ts)[j * 6 + m]? = some v := fun m v h => cat_get ndC_len hx m v h
  obtain ⟨m, rfl⟩ : ∃ m, n = j * 6 + m := ⟨n - j * 6, by omega⟩
  have hm : m < 6 := by omega
  rw [Nat.add_sub_cancel_left]
  by_cases h3 : m = 2
  ·subst h3
   rw [if_pos (by omega), show j * 6 + 2 - (0 + j * 6 + 2) = 0 by omega]
   rfl
  ·rw [if_neg (by omega)]
   rcases (by omega : m = 0 ∨ m = 1 ∨ m = 3 ∨ m = 4 ∨ m = 5) with rfl | rfl | rfl | rfl | rfl
   ·exact h2 0 _ rfl
   ·exact h2 1 _ rfl
   ·exact h2 3 _ rfl
   ·exact h2 4 _ rfl
   ·exact h2 5 _ rfl
 ·rw [if_neg h1, if_neg (by omega)]
structure GKn where
 O : Nat → Prop
 q : Option Addr
 c : Nat
 ts : List NdE
 OA : Nat → Prop
 L : List (Addr × List Value)
structure GK where
 O : Nat → Prop
 q : Option Addr
 c : Nat
 ps : List RowE
 Op : Nat → Prop
 qp : Option Addr
 cp : Nat
 pp : List PathE
 OA : Nat → Prop
 L : List (Addr × List Value)
end Go.Pt
namespace Go.Proofs.Ytleggdmhihcafaa.pt
open Go.RowKit Go.Eng Go.Pt
set_option maxRecDepth 100000
theorem CloneN_calls (q : Option Addr) (cap : Nat) (l : List NdE) (w : World) (hlen : l.length ≤ 100000) (hpos : 0 < l.length) (h : SlAt w w.heap.size q (cat ndC l)) :
  Calls Try.prog 27 #[.slice q l.length cap] w fun e w' => ∃ (O : Nat → Prop) (q' : Option Addr) (c' : Nat), e = .returned (.slice q' l.length c') ∧ Cls [row w.heap.size O q' l.length c' 77 6 (cat ndC l)] [w] w' := by
 refine enter Try.func27 rfl Try.ntmps27 rfl (Cls.start w) ?_
 obtain ⟨a, _, hqa, _⟩ := h.elem ndC_len (by decide) hpos
 subst hqa
 (simp only [argEnv, Nat.zero_add, Nat.reduceAdd])
 apply W.sr
 apply oas; rfl; rfl
 apply OL.nx
 apply W.seq
 apply W.sr
 apply omv; rfl; rfl
 apply obn; rfl; rfl; rfl; apply Bin.slice_nil; rfl
 apply OL.nx
 refine W.cond rfl (fun hc => by cases hc) (fun _ => ?_)
 apply W.sk
 apply W.sr
 apply OL.buildSlice; rfl; rfl; rfl; exact Elems.au; rfl; rfl; (intro bk hbk; simp only [AllLe, and_true] at hbk)
 apply omv; rfl; rfl
 refine OL.cls (C' := Cls (nothing :: [blk bk 77 []]) [w]) (fun w' hw' => hw'.nothing_in) ?_
 ((apply OL.appendF (xs := []) (news := cat ndC l) (base := w.heap.size)); rfl; rfl; rfl; rfl; (exact Hole.au); (exact fun w2 hw2 => SlAt.nil); rfl; (exact fun w2 hw2 => SlAt.extS h (hw2.toExt (s := w) (.head _) (fun k hk => NotOwned.any (fun h => h.elim) (NotOwned.blk (by omega) .nil)))); (exact cat_length ndC_len l); (exact cat_oneL (fun x => rfl) l); (omega); (exact ⟨w, .head _, Nat.le_refl _⟩); (omega); (exact fun h => by cases h); (intro O5 q5 c5))
 rw [List.nil_append, Nat.zero_add]
 apply oas; rfl; rfl
 apply OL.nx
 apply W.ret
 ((with_reducible apply At.fin1); rfl; rfl; intro w' hw')
 exact ⟨O5, q5, c5, rfl, hw'.thin (.keep (.blk ⟨hbk, trivial⟩ Thin.same))⟩
theorem Compile_calls (qd : Option Addr) (cd : Nat) (ds : List (Da × DY)) (q : Option Addr) (cap : Nat) (rs : List (List Ty × PY)) (w : World) (hdl : ds.length ≤ 9223372036854775807) (hd : Arr datR w (low w) ds qd) (hlen : rs.length ≤ 9223372036854775807) (h : Arr patsR w (low w) rs q) :
  Calls Try.prog 13 [.slice qd ds.length cd, .slice q rs.length cap].toArray w fun e w' => Ext w w' ∧ if checkE (ds.map Prod.fst) (rs.map Prod.fst) ≠ 0 then e = .returned (.tuple #[.slice none 0 0, .int .i64 (checkE (ds.map Prod.fst) (rs.map Prod.fst))]) else if (compB (ds.map Prod.fst) (rs.map Prod.fst)).1.full = true then e = .returned (.tuple #[.slice none 0 0, .int .i64 2]) else ∃ (q' : Option Addr) (c' : Nat) (ts : List NdE), e = .returned (.tuple #[.slice q' ts.length c', .int .i64 0]) ∧ ts.map Prod.fst = compT (ds.map Prod.fst) (rs.map Prod.fst) ∧ ts.length ≤ 4096 ∧ SlAt w' w'.heap.size q' (cat ndC ts) ∧ ∀ x ∈ ts, NdAt w' x := by
 refine enter Try.func13 rfl Try.ntmps13 rfl (Cls.start w) ?_
 obtain ⟨D, hD⟩ : ∃ D, ds.map Prod.fst = D := ⟨_, rfl⟩
 obtain ⟨R, hR⟩ : ∃ R, rs.map Prod.fst = R := ⟨_, rfl⟩
 have hRl : R.length = rs.length := by rw [← hR, List.length_map]
 rw [hD, hR]
 (simp only [argEnv, Nat.zero_add, Nat.reduceAdd])
 apply W.sr
 apply oas; rfl; rfl
 apply oas; rfl; rfl
 apply OL.nx
 apply W.seq
 apply W.sr
 apply omv; rfl; rfl
 apply omv; rfl; rfl
 (((first | (with_reducible apply OL.op) | (with_reducible apply QL.op)); (exact Guard.au); rfl; rfl); (refine Pev.call (v := .int .i64 (checkE D R)) rfl (by exact Args.au) (fun _ w2 hw2 => ?_)))
 ·have hc := Check_calls qd cd ds q cap rs w2 hdl (hd.at hw2 (.head _) (fun k hk => .nil)) hlen (h.at hw2 (.head _) (fun k hk => .nil))
  rw [hD, hR] at hc
  exact hc.mono fun e w3 h => ⟨h.1, hw2.ext h.2⟩
 apply oas; rfl; rfl
 apply OL.nsr
 apply omv; rfl; rfl
 apply obn; rfl; rfl; rfl; apply Bin.neq
 apply OL.nx
 by_cases h0 : checkE D R ≠ 0
 ·refine W.cond rfl (fun _ => ?_) (fun hb => by simp at hb; omega)
  apply W.sr
  apply omv; rfl; rfl
  apply oas; rfl; rfl
  apply oas; rfl; rfl
  apply OL.nx
  refine W.rt ?_
  ((with_reducible apply At.fin2); rfl; rfl; rfl; intro w' hw')
  rw [if_pos h0]
  exact ⟨hw'.toExt (.head _) (fun k hk => .nil), rfl⟩
 have h0 : checkE D R = 0 := Decidable.not_not.1 h0
 have hnd := check_nodup h0
 obtain ⟨hU, hR64, hwt, cols, hcr, hc16, hM⟩ := checkE_ok h0
 have h256 : ∀ x ∈ ds, x.1.cons.length ≤ 256 := fun x hx => by
  have := h0
  exact (by
   unfold checkE at this
   by_cases h1 : smallE D R = false
   ·rw [if_pos h1] at this
    cases this
   have h1 : smallE D R = true := by simpa using h1
   unfold smallE at h1
   simp only [Bool.and_eq_true, Bool.not_eq_true', List.any_eq_false] at h1
   have h2 := h1.2.2 x.1 (by rw [← hD]; exact List.mem_map_of_mem hx)
   simpa using h2)
 refine W.cond rfl (fun hb => by simp at hb; omega) (fun _ => ?_)
 apply W.sk
 apply W.sr
 apply omv; rfl; rfl
 refine OL.callE (α := Nat × World) (fun y => .tuple #[.map (some y.1), .int .i64 0]) (fun y => w.heap.size ≤ y.1 ∧ y.1 < y.2.heap.size ∧ (mapS y.1 (datV (datP qd) 0 D)).holds y.2 ∧ Ext w y.2) (fun y => Cls [] [y.2, w]) rfl rfl (by exact Args.au) (fun w2 hw2 => ?_) ?_
 ·have hc := index_calls qd cd ds w2 hdl (hd.at hw2 (.head _) (fun k hk => .nil)) (by rw [hD]; exact hnd)
  rw [hD] at hc
  refine hc.mono ?_
  rintro e w3 ⟨bm, k1, k2, k3, k4, k5⟩
  exact ⟨(bm, w3), k1, ⟨Nat.le_trans (hw2.kp w (.head _)).size k2, k3, k4, (hw2.ext k5).toExt (.head _) (fun k hk => .nil)⟩, (hw2.ext k5).note⟩
 rintro ⟨bm, w1⟩ ⟨hbm, hbm1, hmap, hx1⟩
 simp only at hbm hbm1 hmap hx1 ⊢
 have hw1s := hx1.size
 apply omv; rfl; rfl
 apply oex; rfl; rfl; rfl
 apply oex; rfl; rfl; rfl
 apply oas; rfl; rfl
 apply oas; rfl; rfl
 apply OL.nsr
 apply omv; rfl; rfl
 apply oop; rfl; apply Pev.build; rfl; exact CellsL.agg; rfl; exact Fill.au; rfl
 apply OL.box; rfl; rfl; exact CellsL.agg; (intro bk hbk; simp only [AllLe, and_true] at hbk)
 apply oas; rfl; rfl
 apply OL.nsr
 apply oas; rfl; rfl
 apply OL.nsr
 apply oas; rfl; rfl
 apply OL.nx
 apply W.seq
 apply W.sr
 apply omv; rfl; rfl
 apply oop; rfl; apply Pev.len_slice; rfl; exact yes; rfl
 apply omv; rfl; rfl
 apply OL.nx
 apply W.block
 revert bk
 intro b9 hb9
 have hold : Old w w1 := ⟨hx1.size, fun k hk => hx1.block k hk id⟩
 have hno9 : ∀ k, k < w1.heap.size → NotOwned [blk b9 68 [.map (some bm), .slice none 0 0, .int .i64 0, .bool false]] k := fun k hk => NotOwned.blk (by omega) .nil
 refine W.loop (G := Nat × GK) (fun y => y.1 ≤ rs.length ∧ y.2.ps.map rowP = rowsFrom 0 (R.take y.1) ∧ y.2.ps.length = y.1 ∧ (∀ r ∈ y.2.ps, SlAt w1 w1.heap.size r.2.2.1 (cat tyR.c r.2.1) ∧ r.2.1.length ≤ r.2.2.2 ∧ ∀ z ∈ r.2.1, TyO w1 (low w1) z.1 z.2) ∧ y.2.pp.map Prod.fst = (if y.1 = 0 then [] else paths0 R) ∧ ∀ p ∈ y.2.pp, InL y.2.L p.2.1 (intV p.1) ∧ p.1.length = 1) (fun y => rs.length - y.1)
  (fun y => [(9, true, .pointer (some ⟨b9, 0, none⟩)), (10, true, .slice y.2.q y.2.ps.length y.2.c), (11, true, .slice y.2.qp y.2.pp.length y.2.cp), (32, true, .slice q rs.length cap), (33, true, .int .i64 (rs.length : Int)), (34, true, .int .i64 (y.1 : Int))])
  (fun y => Cls [row w1.heap.size y.2.O y.2.q y.2.ps.length y.2.c 72 2 (cat rowC y.2.ps), row w1.heap.size y.2.Op y.2.qp y.2.pp.length y.2.cp 35 1 (cat pthC y.2.pp), arena w1.heap.size y.2.OA y.2.L, blk b9 68 [.map (some bm), .slice none 0 0, .int .i64 0, .bool false]] [w1, w]) (0, ⟨fun _ => False, none, 0, [], fun _ => False, none, 0, [], fun _ => False, []⟩) ⟨Nat.zero_le _, rfl, rfl, fun r hr => (by cases hr), rfl, fun p hp => (by cases hp)⟩ (by exact Sub.au) (fun w' hw' => ((hw'.arena_nil w1.heap.size).row_nil w1.heap.size 35 1).row_nil w1.heap.size 72 2) ?_
 rintro ⟨i, ⟨Ol, ql, cl, lst, Op, qp, cp, pp, OA, L⟩⟩ ⟨hi, hlst, hlstl, hlok, hpp, hpok⟩
 simp only at hi hlst hlstl hlok hpp hpok ⊢
 apply W.sr
 apply obn; rfl; rfl; rfl; apply Bin.lss
 apply OL.nx
 apply W.seq
 (refine W.cnd (fun hlt => ?_) (fun hlt => ?_)) <;> (try (exfalso; first | omega | exact hlt trivial | contradiction))
 ·obtain ⟨a, u, hqa, hab, hu, hcell, hok⟩ := h.get (show i < rs.length by omega)
  have hab : a.block < w.heap.size := hab
  have hcell : w.cell? (a.add (i * 1)) = some (.slice u.2.1 u.1.length u.2.2) := hcell 0 _ rfl
  obtain ⟨⟨pu, hpu, hpua⟩, huc, hul⟩ := hok
  have hpul : pu.length = u.1.length := by rw [← hpu, List.length_map]
  have hRu : R[i]? = some u.1 := by rw [← hR, List.getElem?_map, hu]; rfl
  have hRt : R.take (i + 1) = R.take i ++ [u.1] := by rw [List.take_add_one, hRu]; rfl
  have htl : (R.take i).length = i := by rw [List.length_take]; omega
  have hu16 : u.1.length ≤ 16 := by
   have := hM.len u.1 (List.mem_of_getElem? hRu)
   omega
  rw [hqa]
  apply W.sk
  apply W.sb
  apply W.sr
  apply omv; rfl; rfl
  apply oop; rfl; apply Pev.idx; rfl; exact yes; rfl; exact yes; rfl; rfl; intro hcond; omega
  apply oop; rfl; apply Pev.load_kept; rfl; exact yes; exact .tail _ (.head _); rfl; intro hcond; assumption; intro hcond; (rw [add_block]; assumption); intro hcond; (focus ((try simp only [add_block]); (repeat (first | exact NotOwned.nil | exact hno _ (by omega) | exact hnr _ (by omega) | refine NotOwned.any (hXn _ (by omega)) ?_ | refine NotOwned.blk (by omega) ?_ | refine NotOwned.row (by omega) ?_ | refine NotOwned.rws (by omega) ?_ | refine NotOwned.pile (by omega) ?_ | refine NotOwned.pool (by omega) ?_ | refine NotOwned.arena (by omega) ?_ | refine NotOwned.bag (by omega) ?_ | refine NotOwned.mapI (by omega) ?_ | apply NotOwned.bif | refine NotOwned.nothing ?_)); done))
  apply oas; rfl; rfl
  apply oas; rfl; rfl
  apply OL.nsr
  apply omv; rfl; rfl
  apply omv; rfl; rfl
  apply omv; rfl; rfl
  apply oop; rfl; apply Pev.build; rfl; exact CellsL.agg; rfl; exact Fill.au; rfl
  apply OL.buildSlice; rfl; rfl; rfl; exact Elems.au; rfl; rfl; (intro bk hbk; simp only [AllLe, and_true] at hbk)
  apply OL.append; rfl; rfl; rfl; rfl; exact Hole.au; exact .head _; exact Take.au; rfl; rfl; exact ⟨_, .head _, Nat.le_refl _⟩; omega; intro O1 g1 cap1
  apply oas; rfl; rfl
  apply OL.nsr
  apply omv; rfl; rfl
  apply obn; rfl; rfl; rfl; apply Bin.eql
  apply OL.nx
  obtain ⟨un, hun⟩ : ∃ un : RowE, un = ((i : Int), pu, u.2) := ⟨_, rfl⟩
  have e1 : lst.length + 1 = (lst ++ [un]).length := by simp
  have e2 : cat rowC lst ++ [Value.int .i64 (i : Int), .slice u.2.1 u.1.length u.2.2] = cat rowC (lst ++ [un]) := by
   rw [cat_append, cat_one, hun]
   show _ = cat rowC lst ++ [Value.int .i64 (i : Int), .slice u.2.1 pu.length u.2.2]
   rw [hpul]
  rw [e1, e2]
  revert bk
  intro b43 hb43
  obtain ⟨lst2, hlst2⟩ : ∃ lst2, lst ++ [un] = lst2 := ⟨_, rfl⟩
  have hl2P : lst2.map rowP = rowsFrom 0 (R.take (i + 1)) := by
   rw [← hlst2, List.map_append, hlst, hRt, rowsFrom_snoc, htl, Nat.zero_add, hun]
   show _ ++ [((i : Int), pu.map Prod.fst)] = _
   rw [hpu]
  have hl2l : lst2.length = i + 1 := by rw [← hlst2]; simp [hlstl]
  have hl2ok : ∀ r ∈ lst2, SlAt w1 w1.heap.size r.2.2.1 (cat tyR.c r.2.1) ∧ r.2.1.length ≤ r.2.2.2 ∧ ∀ z ∈ r.2.1, TyO w1 (low w1) z.1 z.2 := fun r hr => by
   rw [← hlst2] at hr
   rcases List.mem_append.1 hr with hr | hr
   ·exact hlok r hr
   ·rw [List.mem_singleton] at hr
    rw [hr, hun]
    exact ⟨(hold.arr hpua).slAt, by show pu.length ≤ u.2.2; omega, fun z hz => hold.ty (hpua.el z hz)⟩
  rw [hlst2]
  by_cases hi0 : i = 0
  ·subst hi0
   rw [if_pos rfl, List.map_eq_nil_iff] at hpp
   subst hpp
   have hp0 : paths0 R = (List.range u.1.length).map fun (k : Nat) => [(k : Int)] := by
    cases R with
    | nil => cases hRu
    | cons x y =>
     simp only [List.getElem?_cons_zero, Option.some.injEq] at hRu
     rw [← hRu]
     rfl
   refine W.cond rfl (fun _ => ?_) (fun hb => by simp at hb)
   apply W.sr
   apply omv; rfl; rfl
   apply oop; rfl; apply Pev.len_slice; rfl; exact yes; rfl
   apply omv; rfl; rfl
   apply OL.nx
   apply W.block
   refine W.loop (G := Nat × GP) (fun y => y.1 ≤ u.1.length ∧ y.2.ps.map Prod.fst = (List.range y.1).map (fun (k : Nat) => [(k : Int)]) ∧ y.2.ps.length = y.1 ∧ ∀ p ∈ y.2.ps, InL y.2.L p.2.1 (intV p.1) ∧ p.1.length = 1) (fun y => u.1.length - y.1)
    (fun y => [(9, true, .pointer (some ⟨b9, 0, none⟩)), (10, true, .slice (some ⟨g1, 0, none⟩) lst2.length cap1), (11, true, .slice y.2.q y.2.ps.length y.2.c), (32, true, .slice (some a) rs.length cap), (33, true, .int .i64 (rs.length : Int)), (34, true, .int .i64 ((0 : Nat) : Int)), (48, true, .int .i64 (u.1.length : Int)), (49, true, .int .i64 (y.1 : Int))])
    (fun y => Cls [row w1.heap.size O1 (some ⟨g1, 0, none⟩) lst2.length cap1 72 2 (cat rowC lst2), row w1.heap.size y.2.O y.2.q y.2.ps.length y.2.c 35 1 (cat pthC y.2.ps), arena w1.heap.size y.2.OA y.2.L, blk b9 68 [.map (some bm), .slice none 0 0, .int .i64 0, .bool false]] [w1, w]) (0, ⟨Op, qp, cp, [], OA, L⟩) ⟨Nat.zero_le _, rfl, rfl, fun p hp => (by cases hp)⟩ (by exact Sub.au) (fun w' hw' => hw'.thin (.blk (by simp only [AllLe, and_true]; omega) Thin.same)) ?_
   rintro ⟨n, ⟨Oq, qq, cq, pq, OA2, L2⟩⟩ ⟨hn, hpq, hpql, hpqok⟩
   simp only at hn hpq hpql hpqok ⊢
   apply W.sr
   apply obn; rfl; rfl; rfl; apply Bin.lss
   apply OL.nx
   apply W.seq
   (refine W.cnd (fun hltn => ?_) (fun hltn => ?_)) <;> (try (exfalso; first | omega | exact hltn trivial | contradiction))
   ·apply W.sk
    apply W.sb
    apply W.sr
    apply omv; rfl; rfl
    apply oas; rfl; rfl
    apply OL.nx
    apply W.reg
    apply omv; rfl; rfl
    apply omv; rfl; rfl
    apply OL.buildSlice; rfl; rfl; rfl; exact Elems.au; rfl; rfl; (intro bk hbk; simp only [AllLe, and_true] at hbk)
    apply OL.buildSlice; rfl; rfl; rfl; exact Elems.au; rfl; rfl; (intro bk hbk; simp only [AllLe, and_true] at hbk)
    apply OL.append; rfl; rfl; rfl; rfl; exact Hole.au; exact .head _; exact Take.au; rfl; rfl; exact ⟨_, .head _, Nat.le_refl _⟩; omega; intro O1 g1 cap1
    apply oas; rfl; rfl
    apply OL.nil
    with_reducible apply At.in_normal
    with_reducible apply At.next
    apply W.reg
    apply obn; rfl; rfl; rfl; apply Bin.add_in; omega
    apply omv; rfl; rfl
    apply OL.nil
    rename_i b54 hb54
    revert bk
    intro b55 hb55
    obtain ⟨un2, hun2⟩ : ∃ un2 : PathE, un2 = ([(n : Int)], (some ⟨b54, 0, none⟩, 1)) := ⟨_, rfl⟩
    have e3 : pq.length + 1 = (pq ++ [un2]).length := by simp
    have e4 : cat pthC pq ++ [Value.slice (some ⟨b54, 0, none⟩) 1 1] = cat pthC (pq ++ [un2]) := by
     rw [cat_append, cat_one, hun2]
     rfl
    rw [e3, e4]
    refine At.again (n + 1, ⟨O1, some ⟨g1, 0, none⟩, cap1, pq ++ [un2], fun k => OA2 k ∨ (blk b54 3 [.int .i64 (n : Int)]).own k, L2 ++ slL (some ⟨b54, 0, none⟩) (intV [(n : Int)])⟩) ⟨by simp only; omega, by simp only [List.map_append, hpq, hun2, List.range_succ, List.map_cons, List.map_nil], by simp only [← e3]; omega, fun p hp => (List.mem_append.1 hp).elim (fun hp => ?_) (fun hp => ?_)⟩ (by simp only; omega) (by exact Sub.au) (fun w' hw' => ?_)
    ·exact ⟨(hpqok p hp).1.mono (fun y hy => List.mem_append_left _ hy), (hpqok p hp).2⟩
    ·rw [List.mem_singleton] at hp
     rw [hp, hun2]
     exact ⟨fun hl => ⟨_, rfl, List.mem_append_right _ (slL_in hl)⟩, rfl⟩
    ·have h3 := (hw'.thin (.blk (by simp only [AllLe, and_true]; omega) Thin.same)).perm (List.Perm.cons _ (List.perm_middle (l₁ := [_, _]) (l₂ := [_])))
     have h4 := h3.arena_join (fun k hk => by rw [show k = b54 from hk]; omega) (slL (some ⟨b54, 0, none⟩) (intV [(n : Int)])) (fun x hx => by
      obtain ⟨k1, k2, k3⟩ := slL_mem hx
      have hb := h3.item (i := blk b54 3 [.int .i64 (n : Int)]) (.head _)
      rw [← Option.some.inj k1, k2]
      exact ⟨rfl, fun j v hj => by
       rw [add_mid, blk_cell hb, Nat.zero_add]
       exact hj⟩)
     exact h4.perm (List.perm_middle (l₁ := [_, _]) (l₂ := [_])).symm
   ·obtain rfl : n = u.1.length := by omega
    refine W.xt ?_
    with_reducible apply At.in_normal
    with_reducible apply At.next
    apply W.reg
    apply obn; rfl; rfl; rfl; apply Bin.add_in; omega
    apply omv; rfl; rfl
    apply OL.nil
    exact At.again (0 + 1, ⟨O1, some ⟨g1, 0, none⟩, cap1, lst2, Oq, qq, cq, pq, OA2, L2⟩) ⟨by simp only; omega, hl2P, hl2l, hl2ok, by simp only [hpq, hp0]; rfl, hpqok⟩ (by simp only; omega) (by exact Sub.au) (fun w' hw' => hw')
  ·rw [if_neg hi0] at hpp
   refine W.cond rfl (fun hb => absurd (of_decide_eq_true hb) (by omega)) (fun _ => ?_)
   apply W.skip
   with_reducible apply At.in_normal
   with_reducible apply At.next
   apply W.reg
   apply obn; rfl; rfl; rfl; apply Bin.add_in; omega
   apply omv; rfl; rfl
   apply OL.nil
   exact At.again (i + 1, ⟨O1, some ⟨g1, 0, none⟩, cap1, lst2, Op, qp, cp, pp, OA, L⟩) ⟨by simp only; omega, hl2P, hl2l, hl2ok, by simp only [hpp, if_neg (Nat.succ_ne_zero i)], hpok⟩ (by simp only; omega) (by exact Sub.au) (fun w' hw' => hw'.thin (.blk (by simp only [AllLe, and_true]; omega) Thin.same))
 ·obtain rfl : i = rs.length := by omega
  rw [← hRl, List.take_length] at hlst
  have hpp : pp.map Prod.fst = paths0 R := by
   rw [hpp]
   split
   ·rename_i h9
    rw [← hRl] at h9
    rw [List.length_eq_zero_iff.1 h9]
    rfl
   ·rfl
  refine W.fact (fun w2 hw2 => row_cap (hw2.item (i := row w1.heap.size Op qp pp.length cp 35 1 (cat pthC pp)) (.tail _ (.head _)))) (fun hppc => ?_)
  refine W.fact (φ := (0 < (cat rowC lst).length → ∃ a, ql = some a) ∧ (0 < (cat pthC pp).length → ∃ a, qp = some a)) (fun w2 hw2 => ⟨fun hl => ?_, fun hl => ?_⟩) (fun hqq => ?_)
  ·obtain ⟨a9, k1, _⟩ := SlAt.of_row (hw2.item (i := row w1.heap.size Ol ql lst.length cl 72 2 (cat rowC lst)) (.head _)) hl
   exact ⟨a9, k1⟩
  ·obtain ⟨a9, k1, _⟩ := SlAt.of_row (hw2.item (i := row w1.heap.size Op qp pp.length cp 35 1 (cat pthC pp)) (.tail _ (.head _))) hl
   exact ⟨a9, k1⟩
  obtain ⟨g0, hg0⟩ : ∃ g0 : BG, g0 = ⟨0, false, [], fun _ => False, none, 0, fun k => (OA k ∨ (row w1.heap.size Ol ql lst.length cl 72 2 (cat rowC lst)).own k) ∨ (row w1.heap.size Op qp pp.length cp 35 1 (cat pthC pp)).own k, (L ++ slL ql (cat rowC lst)) ++ slL qp (cat pthC pp)⟩ := ⟨_, rfl⟩
  have hwR : rowsOf (lst.map rowP) = R := by rw [hlst]; exact rowsFrom_rows 0 R
  have hMp : Mat D R pp.length ∧ pp.length ≤ 16 := by
   have hl : pp.length = (paths0 R).length := by rw [← hpp, List.length_map]
   cases R with
   | nil =>
    rw [hl]
    exact ⟨⟨fun r hr => (by cases hr), fun r hr => (by cases hr), fun k => Agr.nil⟩, Nat.zero_le _⟩
   | cons x y =>
    have h9 := hcr x y rfl
    have h8 : (paths0 (x :: y)).length = x.length := by simp [paths0]
    rw [hl, h8, ← h9]
    exact ⟨hM, hc16⟩
  have hin0 : InB D w1 g0.L ql qp cp lst pp (wtR R + 1) := by
   refine ⟨Seen.new hqq.1 (fun x hx => ?_), fun r hr => ⟨Seen.old (hlok r hr).1, (hlok r hr).2⟩, by omega, Seen.new hqq.2 (fun x hx => ?_), hppc, fun p hp => ⟨fun hl => ?_, by have := (hpok p hp).2; omega, by rw [hwR]; have := (hpok p hp).2; omega⟩, by rw [hwR]; exact hMp.1, by rw [hwR]; omega, by rw [hwR]; have := hMp.2; omega⟩
   ·rw [hg0]
    exact List.mem_append_left _ (List.mem_append_right _ hx)
   ·rw [hg0]
    exact List.mem_append_right _ hx
   ·obtain ⟨a9, k1, k2⟩ := (hpok p hp).1 hl
    exact ⟨a9, k1, .inl (by rw [hg0]; exact List.mem_append_left _ (List.mem_append_left _ k2))⟩
  have hbas : Bas D w1 bm qd ds := ⟨hD, hd.ext hx1, hmap, hbm1, hdl, h256, hU⟩
  have hcB : buildE D (wtR R + 1) g0.st (lst.map rowP) (pp.map Prod.fst) = compB D R := by
   rw [hlst, hpp, hg0]
   rfl
  refine W.xt ?_
  with_reducible apply At.next
  apply W.sr
  apply omv; rfl; rfl
  apply omv; rfl; rfl
  apply omv; rfl; rfl
  refine OL.callE (α := BG) (fun y => .int .i64 (compB D R).2) (fun y => y.st = (compB D R).1 ∧ (∀ z ∈ y.outs, NdSeen w1 y.L z) ∧ Mo 0 (4097 + 400 * (wtR R + 1) + 1) y.st) (fun y => Cls (bI w1.heap.size b9 bm y nothing) [w1, w]) rfl rfl (by exact Args.au) (fun w2 hw2 => ?_) ?_
  ·have h1 : Cls (bI w1.heap.size b9 bm g0 nothing) [w1, w] w2 := by
    rw [hg0]
    exact (((hw2.row_nil w1.heap.size 77 6).nothing_in).perm ((List.perm_append_comm (l₁ := [_, _]) (l₂ := [_, _, _, _])).trans (List.Perm.cons _ (List.Perm.cons _ ((List.Perm.swap _ _ _).trans (List.Perm.cons _ (List.perm_append_comm (l₁ := [_, _]) (l₂ := [_])))))))).rows2
   have hc := build_all D w1 bm qd ds hbas (wtR R + 1) [w1, w] nothing b9 g0 ql qp cl cp 0 (4097 + 400 * (wtR R + 1)) lst pp w2 (.head _) (by omega) (fun k hk => hk.elim) (fun z hz => by rw [hg0] at hz; cases hz) hin0 ⟨by rw [hg0]; exact Nat.le_refl _, .inl ⟨by rw [hg0]; rfl, by rw [hg0]; exact Nat.zero_le _⟩⟩ (Nat.le_refl _) (by omega) h1
   rw [hcB] at hc
   refine hc.mono ?_
   rintro e w3 ⟨g', k1, k2, k3, k4, k5, k6⟩
   exact ⟨g', k1, ⟨k2, k4, k5⟩, k6⟩
  rintro g' ⟨hst, hg', hmo'⟩
  unfold bI
  apply oas; rfl; rfl
  apply OL.nx
  apply W.seq
  apply W.sr
  apply omv; rfl; rfl
  apply oop; rfl; apply Pev.nil_ptr; rfl; exact yes
  apply ofa; rfl; rfl; rfl
  apply old; rfl; rfl; exact .head _; rfl; rfl
  apply OL.nx
  have hfull : g'.full = (compB D R).1.full := by rw [← hst]; rfl
  by_cases hf : g'.full = true
  ·refine W.cond rfl (fun _ => ?_) (fun hb => by rw [hf] at hb; cases hb)
   apply W.sr
   apply oas; rfl; rfl
   apply oas; rfl; rfl
   apply OL.nx
   refine W.rt ?_
   ((with_reducible apply At.fin2); rfl; rfl; rfl; intro w' hw')
   rw [if_neg (by simp [h0]), if_pos (by rw [← hfull]; exact hf)]
   refine ⟨hw'.toExt (s := w) (by simp) (fun k hk => NotOwned.blk (by omega) (NotOwned.row (by omega) (NotOwned.arena (by omega) (NotOwned.any (fun h => h.elim) .nil)))), rfl⟩
  have hf : g'.full = false := by simpa using hf
  obtain ⟨k, hk, hkl⟩ := buildE_idx D (wtR R) st0 (rowsFrom 0 R) (paths0 R)
  have hk : (compB D R).2 = (k : Int) := hk
  have hkl : k < (compB D R).1.out.length := hkl
  have hol : (compB D R).1.out.length = g'.outs.length := by rw [← hst]; simp [BG.st]
  have hcT : compT D R = (g'.outs.take (k + 1)).map Prod.fst := by
   unfold compT
   rw [hk, Int.toNat_natCast, ← hst, List.map_take]
   rfl
  have hmm : g'.outs.length ≤ 4096 := by
   have h1 := hmo'.out
   have h2 : g'.st.out.length = g'.outs.length := by simp [BG.st]
   rcases hmo'.lim with h | h
   ·omega
   ·have h3 : g'.st.full = g'.full := rfl
    rw [h3, hf] at h
    cases h.1
  rw [hk]
  refine W.cond rfl (fun hb => by rw [hf] at hb; cases hb) (fun _ => ?_)
  refine W.fact (fun w2 hw2 => row_cap (hw2.item (i := row w1.heap.size g'.O g'.q g'.outs.length g'.c 77 6 (cat ndC g'.outs)) (.tail _ (.head _)))) (fun hoc => ?_)
  have hko : k + 1 ≤ g'.outs.length := by omega
  apply W.sk
  apply W.sr
  apply omv; rfl; rfl
  apply oop; rfl; apply Pev.nil_ptr; rfl; exact yes
  apply ofa; rfl; rfl; rfl
  apply old; rfl; rfl; exact .head _; rfl; rfl
  apply omv; rfl; rfl
  apply obn; rfl; rfl; rfl; apply Bin.add_in; omega
  apply oop; rfl; apply Pev.slice_hi; rfl; exact yes; rfl; exact yes; rfl; rfl; intro hcond; (simp only [Bool.and_eq_true, Bool.or_eq_true, Bool.not_eq_true', decide_eq_true_eq, decide_eq_false_iff_not] at *; omega)
  obtain ⟨T0, hT0⟩ : ∃ T0, g'.outs.take (k + 1) = T0 := ⟨_, rfl⟩
  have hT0l : k + 1 = T0.length := by rw [← hT0, List.length_take]; omega
  have hT0m : ∀ x ∈ T0, x ∈ g'.outs := fun x hx => List.mem_of_mem_take (by rw [hT0]; exact hx)
  rw [hT0] at hcT
  rw [hT0l]
  refine OL.callE (α := (Nat → Prop) × Option Addr × Nat) (fun y => .slice y.2.1 T0.length y.2.2) (fun y => True) (fun y => Cls [row w1.heap.size y.1 y.2.1 T0.length y.2.2 77 6 (cat ndC T0), arena w1.heap.size g'.OA g'.L] [w1, w]) rfl rfl (by exact Args.au) (fun w2 hw2 => ?_) ?_
  ·have hsl : SlAt w2 w2.heap.size g'.q (cat ndC T0) := by
    rw [← hT0]
    exact (SlAt.of_row (hw2.item (i := row w1.heap.size g'.O g'.q g'.outs.length g'.c 77 6 (cat ndC g'.outs)) (.tail _ (.head _)))).takeC (k + 1)
   refine (CloneN_calls g'.q g'.c T0 w2 (by omega) (by omega) hsl).mono ?_
   rintro e w3 ⟨O5, q5, c5, k1, k2⟩
   refine ⟨(fun k => w2.heap.size ≤ k ∧ O5 k, q5, c5), k1, trivial, ?_⟩
   have h5 := hw2.callee k2 (hw2.kp w1 (.head _)).size
   exact h5.thin (.keep (.blk (by simp only [AllLe, and_true]; omega) (.row (by simp only [AllLe, and_true]; omega) (.keep (.any (fun k hk => hk.elim) .nil)))))
  rintro ⟨O5, q5, c5⟩ _
  simp only
  apply oas; rfl; rfl
  apply OL.nx
  apply W.seq
  apply W.sr
  apply omv; rfl; rfl
  apply oop; rfl; apply Pev.len_slice; rfl; exact yes; rfl
  apply omv; rfl; rfl
  apply OL.nx
  apply W.block
  refine W.loop (G := Nat × GKn) (fun y => y.1 ≤ T0.length ∧ y.2.ts.map Prod.fst = compT D R ∧ y.2.ts.length = T0.length ∧ (∀ x ∈ y.2.ts, NdS w1 y.2.L x) ∧ ∀ (i : Nat) (x : NdE), y.1 ≤ i → y.2.ts[i]? = some x → (x.1.path.length = 0 → x.2.p.1 = none)) (fun y => T0.length - y.1)
   (fun y => [(16, true, .slice y.2.q T0.length y.2.c), (76, true, .int .i64 (T0.length : Int)), (77, true, .int .i64 (y.1 : Int))])
   (fun y => Cls [row w1.heap.size y.2.O y.2.q T0.length y.2.c 77 6 (cat ndC y.2.ts), arena w1.heap.size y.2.OA y.2.L] [w1, w]) (0, ⟨O5, q5, c5, T0, g'.OA, g'.L⟩) ⟨Nat.zero_le _, hcT.symm, rfl, fun x hx => ⟨(hg' x (hT0m x hx)).p, (hg' x (hT0m x hx)).n, (hg' x (hT0m x hx)).d, (hg' x (hT0m x hx)).k, (hg' x (hT0m x hx)).l, (hg' x (hT0m x hx)).cn, (hg' x (hT0m x hx)).cw⟩, fun i x _ hx => (hg' x (hT0m x (List.mem_of_getElem? hx))).z⟩ (by exact Sub.au) (fun w' hw' => hw') ?_
  rintro ⟨j, ⟨Ot, qt, ct, ts, OAt, Lt⟩⟩ ⟨hj, hts, htl, htok, htz⟩
  simp only at hj hts htl htok htz ⊢
  have hnoT : ∀ k, k < w1.heap.size → NotOwned [row w1.heap.size Ot qt T0.length ct 77 6 (cat ndC ts), arena w1.heap.size OAt Lt] k := fun k hk => NotOwned.row (by omega) (NotOwned.arena (by omega) .nil)
  apply W.sr
  apply obn; rfl; rfl; rfl; apply Bin.lss
  apply OL.nx
  apply W.seq
  (refine W.cnd (fun hltj => ?_) (fun hltj => ?_)) <;> (try (exfalso; first | omega | exact hltj trivial | contradiction))
  ·refine W.fact (φ := ∃ g, qt = some ⟨g, 0, none⟩ ∧ w1.heap.size ≤ g) (fun w2 hw2 => row_is (hw2.item (.head _)) (by rw [cat_length (f := ndC) ndC_len]; omega)) (fun hqt => ?_)
   obtain ⟨gt, rfl, hgt⟩ := hqt
   obtain ⟨x, hxj⟩ : ∃ x, ts[j]? = some x := ⟨_, List.getElem?_eq_getElem (by omega)⟩
   have hxm := List.mem_of_getElem? hxj
   have hxs := htok x hxm
   have hxz := htz j x (Nat.le_refl _) hxj
   have hxl := hxs.l.p
   apply W.sk
   apply W.sb
   apply W.sr
   apply omv; rfl; rfl
   apply oas; rfl; rfl
   apply OL.nx
   apply W.reg
   apply omv; rfl; rfl
   apply omv; rfl; rfl
   apply omv; rfl; rfl
   apply omv; rfl; rfl
   apply oop; rfl; apply Pev.idxB; rfl; exact yes; rfl; exact yes; rfl; intro hcond; omega; rfl
   apply ofa; rfl; rfl; rfl
   apply oop; rfl; apply Pev.load_rowC; rfl; exact yes; exact .head _; rfl; exact fun _ => rfl; (intro hcond; assumption); rfl; (intro hcond; omega)
   refine OL.callE (α := (Nat → Prop) × Option Addr × Nat) (fun y => .slice y.2.1 x.1.path.length y.2.2) (fun y => True) (fun y => Cls [row w1.heap.size y.1 y.2.1 x.1.path.length y.2.2 3 1 (intV x.1.path), row w1.heap.size Ot (some ⟨gt, 0, none⟩) T0.length ct 77 6 (cat ndC ts), arena w1.heap.size OAt Lt] [w1, w]) rfl rfl (by exact Args.au) (fun w2 hw2 => ?_) ?_
   ·refine (CloneI_calls x.2.p.1 x.2.p.2 x.1.path w2 hxl (by
     by_cases h9 : x.1.path.length = 0
     ·exact .inr (hxz h9)
     ·exact .inl (by omega)) (hxs.p.slAt hw2 (.head _) (.tail _ (.head _)) hnoT)).mono ?_
    rintro e w3 ⟨O6, q6, c6, k1, k2⟩
    exact ⟨(fun k => w2.heap.size ≤ k ∧ O6 k, q6, c6), k1, trivial, hw2.callee k2 (hw2.kp w1 (.head _)).size⟩
   rintro ⟨O6, q6, c6⟩ _
   simp only
   refine OL.fact (φ := 0 < (intV x.1.path).length → ∃ a, q6 = some a) (fun w2 hw2 hl => ?_) (fun hq6 => ?_)
   ·obtain ⟨a9, k1, _⟩ := SlAt.of_row (hw2.item (i := row w1.heap.size O6 q6 x.1.path.length c6 3 1 (intV x.1.path)) (.head _)) hl
    exact ⟨a9, k1⟩
   apply oop; rfl; apply Pev.idxB; rfl; exact yes; rfl; exact yes; rfl; intro hcond; omega; rfl
   apply ofa; rfl; rfl; rfl
   ((refine OL.storeRA rfl rfl (CellsL.one rfl) rfl rfl rfl Hole.au ?_ ?_); (rw [cat_length (f := ndC) ndC_len, Int.toNat_natCast]; show 0 + j * 6 + 2 + 1 ≤ ts.length * 6; omega))
   rw [Int.toNat_natCast, cat_setP hxj (q6, c6)]
   apply OL.nil
   with_reducible apply At.in_normal
   with_reducible apply At.next
   apply W.reg
   apply obn; rfl; rfl; rfl; apply Bin.add_in; omega
   apply omv; rfl; rfl
   apply OL.nil
   refine At.again (j + 1, ⟨Ot, some ⟨gt, 0, none⟩, ct, ts.set j (x.1, ⟨(q6, c6), x.2.n, x.2.w, x.2.k⟩), fun k => OAt k ∨ (row w1.heap.size O6 q6 x.1.path.length c6 3 1 (intV x.1.path)).own k, Lt ++ slL q6 (intV x.1.path)⟩) ⟨by simp only; omega, ?_, by simp only [List.length_set]; exact htl, fun y hy => ?_, fun i y hi hy => ?_⟩ (by simp only; omega) (by exact Sub.au) (fun w' hw' => ?_)
   ·simp only
    rw [List.map_set, hts]
    refine List.ext_getElem? fun n => ?_
    rw [List.getElem?_set]
    split
    ·rename_i h9
     rw [← h9, ← hts, List.getElem?_map, hxj]
     split
     ·rfl
     ·rename_i h8
      rw [List.length_map] at h8
      omega
    ·rfl
   ·rcases List.mem_or_eq_of_mem_set hy with hy | hy
    ·exact (htok y hy).mono (fun z hz => List.mem_append_left _ hz)
    ·rw [hy]
     exact ⟨Seen.new hq6 (fun z hz => List.mem_append_right _ hz), hxs.n.mono (fun z hz => List.mem_append_left _ hz), hxs.d.mono (fun z hz => List.mem_append_left _ hz), hxs.k.mono (fun z hz => List.mem_append_left _ hz), hxs.l, hxs.cn, hxs.cw⟩
   ·simp only at hi hy
    rw [List.getElem?_set_ne (by omega)] at hy
    exact htz i y (by omega) hy
   ·exact ((hw'.perm (List.Perm.cons _ (List.Perm.swap _ _ _))).arena_row).perm (List.Perm.swap _ _ _)
  ·refine W.xt ?_
   with_reducible apply At.next
   apply W.sr
   apply omv; rfl; rfl
   apply oas; rfl; rfl
   apply oas; rfl; rfl
   apply OL.nx
   apply W.ret
   ((with_reducible apply At.fin2); rfl; rfl; rfl; intro w' hw')
   rw [if_neg (by simp [h0]), if_neg (by rw [← hfull, hf]; decide)]
   refine ⟨hw'.toExt (s := w) (by simp) (fun k hk => hnoT k (by omega)), qt, ct, ts, by rw [htl], hts, by omega, SlAt.of_row (hw'.item (.head _)), fun x hx => ?_⟩
   have hx := htok x hx
   exact ⟨hx.p.slAt hw' (.head _) (.tail _ (.head _)) hnoT, hx.n.slAt hw' (.head _) (.tail _ (.head _)) hnoT, hx.d.slAt hw' (.head _) (.tail _ (.head _)) hnoT, hx.k.slAt hw' (.head _) (.tail _ (.head _)) hnoT, hx.l, hx.cn, hx.cw⟩
end Go.Proofs.Ytleggdmhihcafaa.pt

/- The walks of slices.Index, Contains, IndexFunc, ContainsFunc at ints and strings, of match.twice and match.bare. Conditions: none. (Printed by pwl.py.) -/
namespace Go.Pt
open Go.Eng Go.RowKit
def bareE (x : Pt.Nd) : Bool :=
 if x.kind = 0 then decide (x.row = 0) && decide (x.path.length + x.names.length + x.words.length + x.kids.length = 0)
 else if x.kind = 1 then decide (x.path.length + x.names.length + x.words.length + x.kids.length = 0)
 else if x.kind = 2 then decide (x.row = 0) && (decide (x.words.length = 0) && (decide (0 < x.path.length) && decide (x.kids.length = x.names.length + 1)))
 else if x.kind = 3 then decide (x.row = 0) && (decide (x.names.length = 0) && (decide (0 < x.path.length) && decide (x.kids.length = x.words.length + 1)))
 else false
def twiceL {α : Type} [DecidableEq α] : List α → List α → Bool
 | _, [] => false
 | p, x :: l => (p.any fun y => decide (y = x)) || twiceL (p ++ [x]) l
theorem twiceL_no {α : Type} [DecidableEq α] : ∀ (p l : List α), (p ++ l).Nodup → twiceL p l = false
 | _, [], _ => rfl
 | p, x :: l, h => by
  rw [twiceL, twiceL_no (p ++ [x]) l (by rw [List.append_assoc]; exact h), Bool.or_false]
  rw [List.nodup_append] at h
  exact List.any_eq_false.2 fun y hy => by simpa using fun e => h.2.2 y hy x (.head _) e
theorem SlAt.int {w : World} {q : Option Addr} {l : List Int} (h : SlAt w w.heap.size q (intV l)) {i : Nat} (hi : i < l.length) : ∃ a u, q = some a ∧ a.block < w.heap.size ∧ l[i]? = some u ∧ w.cell? (a.add (i * 1)) = some (.int .i64 u) := by
 obtain ⟨a, u, h1, h2, h3, h4⟩ := (IntsO.of_sl h).get hi
 exact ⟨a, u, h1, h2, h3, h4⟩
end Go.Pt
namespace Go.Proofs.Ytleggdmhihcafaa.pt
open Go.RowKit Go.Eng Go.Pt
set_option maxRecDepth 100000
theorem IIdx_calls (q : Option Addr) (cap : Nat) (l : List Int) (s : Int) (w : World) (hlen : l.length ≤ 9223372036854775807) (h : SlAt w w.heap.size q (intV l)) :
  Calls Try.prog 31 #[.slice q l.length cap, Value.int .i64 s] w fun e w' => e = .returned (.int .i64 (idxP (fun x : Int => decide (x = s)) l 0)) ∧ Ext w w' := by
 refine enter Try.func31 rfl Try.ntmps31 rfl (Cls.start w) ?_
 (simp only [argEnv, Nat.zero_add, Nat.reduceAdd])
 apply W.sr
 apply oas; rfl; rfl
 apply OL.nx
 apply W.seq
 apply W.sr
 apply omv; rfl; rfl
 apply oop; rfl; apply Pev.len_slice; rfl; exact yes; rfl
 apply omv; rfl; rfl
 apply OL.nx
 apply W.block
 refine W.loop (G := Nat) (fun i => i ≤ l.length ∧ idxP (fun x : Int => decide (x = s)) (l.drop i) i = idxP (fun x : Int => decide (x = s)) l 0) (fun i => l.length - i)
  (fun i => [(8, true, .int .i64 (i : Int)), (7, true, .int .i64 (l.length : Int)), (0, true, .slice q l.length cap), (1, true, Value.int .i64 s)])
  (fun i => Cls [] [w]) 0 ⟨by omega, rfl⟩ (by exact Sub.au) (fun w' hw' => hw') ?_
 rintro i ⟨hi, hrest⟩
 apply W.sr
 apply obn; rfl; rfl; rfl; apply Bin.lss
 apply OL.nx
 apply W.seq
 (refine W.cnd (fun hlt => ?_) (fun hlt => ?_)) <;> (try (exfalso; first | omega | exact hlt trivial | contradiction))
 ·obtain ⟨a, u, rfl, hab, hu, hcell⟩ := Pt.SlAt.int h (show i < l.length by omega)
  rw [idxP_get hu] at hrest
  apply W.sk
  apply W.sb
  apply W.sr
  apply omv; rfl; rfl
  apply oas; rfl; rfl
  apply OL.nsr
  apply omv; rfl; rfl
  apply omv; rfl; rfl
  apply omv; rfl; rfl
  apply oop; rfl; apply Pev.idx; rfl; exact yes; rfl; exact yes; rfl; rfl; intro hcond; omega
  apply oop; rfl; apply Pev.load_kept; rfl; exact yes; exact .head _; rfl; intro hcond; assumption; intro hcond; (rw [add_block]; assumption); intro hcond; exact NotOwned.au
  apply obn; rfl; rfl; rfl; apply Bin.eql
  apply OL.nx
  by_cases heq : u = s
  ·have hd : decide (s = u) = true := decide_eq_true heq.symm
   rw [if_pos (decide_eq_true heq)] at hrest
   rw [hd]
   refine W.cond rfl (fun _ => ?_) (fun hb => by cases hb)
   apply W.sr
   apply omv; rfl; rfl
   apply oas; rfl; rfl
   apply OL.nx
   refine W.rt ?_
   ((with_reducible apply At.fin1); rfl; rfl; intro w' hw')
   exact ⟨by rw [hrest], by (exact hw'.fr)⟩
  ·have hd : decide (s = u) = false := decide_eq_false (fun e => heq e.symm)
   rw [if_neg (by simpa using heq)] at hrest
   rw [hd]
   refine W.cond rfl (fun hb => by cases hb) (fun _ => ?_)
   apply W.skip
   with_reducible apply At.in_normal
   with_reducible apply At.next
   apply W.reg
   apply obn; rfl; rfl; rfl; apply Bin.add_in; omega
   apply omv; rfl; rfl
   apply OL.nil
   exact At.again (i + 1) ⟨by omega, hrest⟩ (by omega) (by exact Sub.au) (fun w' hw' => hw')
 ·refine W.xt ?_
  with_reducible apply At.next
  apply W.sr
  apply oas; rfl; rfl
  apply OL.nx
  apply W.ret
  ((with_reducible apply At.fin1); rfl; rfl; intro w' hw')
  rw [idxP_end (by omega)] at hrest
  exact ⟨by rw [hrest], by (exact hw'.fr)⟩
theorem IHas_calls (q : Option Addr) (cap : Nat) (l : List Int) (s : Int) (w : World) (hlen : l.length ≤ 9223372036854775807) (h : SlAt w w.heap.size q (intV l)) :
  Calls Try.prog 81 #[.slice q l.length cap, Value.int .i64 s] w fun e w' => e = .returned (.bool (l.any fun x : Int => decide (x = s))) ∧ Ext w w' := by
 refine enter Try.func81 rfl Try.ntmps81 rfl (Cls.start w) ?_
 (simp only [argEnv, Nat.zero_add, Nat.reduceAdd])
 apply W.sr
 apply oas; rfl; rfl
 apply OL.nsr
 apply omv; rfl; rfl
 apply omv; rfl; rfl
 (((first | (with_reducible apply OL.op) | (with_reducible apply QL.op)); (exact Guard.au); rfl; rfl); (exact Pev.call rfl (by exact Args.au) (fun _ w2 hw2 => (IIdx_calls q cap l s w2 hlen (SlAt.extS h (hw2.toExt (s := w) (.head _) (fun k hk => .nil)))).mono (fun e w3 h => ⟨h.1, hw2.ext h.2⟩))))
 apply obn; rfl; rfl; rfl; apply Bin.geq
 apply oas; rfl; rfl
 apply OL.nx
 apply W.ret
 ((with_reducible apply At.fin1); rfl; rfl; intro w' hw')
 exact ⟨by rw [← idxP_nonneg], by (exact hw'.fr)⟩
theorem IIdxF_calls (q : Option Addr) (cap : Nat) (ps : List Int) (f : FuncId) (first caps : List Value) (p : Int → Bool) (w : World) (hlen : ps.length ≤ 9223372036854775807) (h : SlAt w w.heap.size q (intV ps))
  (hf : callable Try.prog f = true) (hp : ∀ s ∈ ps, ∀ w', Ext w w' → Calls Try.prog f (first ++ [Value.int .i64 s] ++ caps).toArray w' fun e w'' => e = .returned (.bool (p s)) ∧ Ext w' w'') :
  Calls Try.prog 86 #[.slice q ps.length cap, .func (.func f) first.toArray caps.toArray] w fun e w' => e = .returned (.int .i64 (idxP p ps 0)) ∧ Ext w w' := by
 refine enter Try.func86 rfl Try.ntmps86 rfl (Cls.start w) ?_
 (simp only [argEnv, Nat.zero_add, Nat.reduceAdd])
 apply W.sr
 apply oas; rfl; rfl
 apply OL.nx
 apply W.seq
 apply W.sr
 apply omv; rfl; rfl
 apply oop; rfl; apply Pev.len_slice; rfl; exact yes; rfl
 apply omv; rfl; rfl
 apply OL.nx
 apply W.block
 refine W.loop (G := Nat) (fun i => i ≤ ps.length ∧ idxP p (ps.drop i) i = idxP p ps 0) (fun i => ps.length - i)
  (fun i => [(8, true, .int .i64 (i : Int)), (7, true, .int .i64 (ps.length : Int)), (0, true, .slice q ps.length cap), (1, true, .func (.func f) first.toArray caps.toArray)])
  (fun i => Cls [] [w]) 0 ⟨by omega, rfl⟩ (by exact Sub.au) (fun w' hw' => hw') ?_
 rintro i ⟨hi, hrest⟩
 apply W.sr
 apply obn; rfl; rfl; rfl; apply Bin.lss
 apply OL.nx
 apply W.seq
 (refine W.cnd (fun hlt => ?_) (fun hlt => ?_)) <;> (try (exfalso; first | omega | exact hlt trivial | contradiction))
 ·obtain ⟨a, u, rfl, hab, hu, hcell⟩ := Pt.SlAt.int h (show i < ps.length by omega)
  have hpu := fun w3 => hp u (List.mem_of_getElem? hu) w3
  rw [idxP_get hu] at hrest
  apply W.sk
  apply W.sb
  apply W.sr
  apply omv; rfl; rfl
  apply oas; rfl; rfl
  apply OL.nsr
  apply omv; rfl; rfl
  apply omv; rfl; rfl
  apply omv; rfl; rfl
  apply oop; rfl; apply Pev.idx; rfl; exact yes; rfl; exact yes; rfl; rfl; intro hcond; omega
  apply oop; rfl; apply Pev.load_kept; rfl; exact yes; exact .head _; rfl; intro hcond; assumption; intro hcond; (rw [add_block]; assumption); intro hcond; exact NotOwned.au
  (((first | (with_reducible apply OL.op) | (with_reducible apply QL.op)); (exact Guard.au); rfl; rfl); (apply Pev.callv (first := first) (cap := caps)); rfl; ((first | exact fun _ => rfl | exact fun h => h | (intro h; simp_all; done))); (exact hf); (exact Args.au); (exact (fun _ w2 hw2 => (hpu w2 (hw2.toExt (by exact mau) (fun k hk => by exact NotOwned.au))).mono (fun e w3 h => ⟨h.1, hw2.ext h.2⟩))))
  apply OL.nx
  refine W.cond rfl (fun heq => ?_) (fun heq => ?_)
  ·rw [if_pos heq] at hrest
   apply W.sr
   apply omv; rfl; rfl
   apply oas; rfl; rfl
   apply OL.nx
   refine W.rt ?_
   ((with_reducible apply At.fin1); rfl; rfl; intro w' hw')
   exact ⟨by rw [hrest], by (exact hw'.fr)⟩
  ·rw [if_neg (by simpa using heq)] at hrest
   apply W.skip
   with_reducible apply At.in_normal
   with_reducible apply At.next
   apply W.reg
   apply obn; rfl; rfl; rfl; apply Bin.add_in; omega
   apply omv; rfl; rfl
   apply OL.nil
   exact At.again (i + 1) ⟨by omega, hrest⟩ (by omega) (by exact Sub.au) (fun w' hw' => hw'.thin (by exact Thin.au))
 ·rw [idxP_end (by omega)] at hrest
  refine W.xt ?_
  with_reducible apply At.next
  apply W.sr
  apply oas; rfl; rfl
  apply OL.nx
  apply W.ret
  ((with_reducible apply At.fin1); rfl; rfl; intro w' hw')
  exact ⟨by rw [← hrest], by (exact hw'.fr)⟩
theorem IHasF_calls (q : Option Addr) (cap : Nat) (ps : List Int) (f : FuncId) (first caps : List Value) (p : Int → Bool) (w : World) (hlen : ps.length ≤ 9223372036854775807) (h : SlAt w w.heap.size q (intV ps))
  (hf : callable Try.prog f = true) (hp : ∀ s ∈ ps, ∀ w', Ext w w' → Calls Try.prog f (first ++ [Value.int .i64 s] ++ caps).toArray w' fun e w'' => e = .returned (.bool (p s)) ∧ Ext w' w'') :
  Calls Try.prog 59 #[.slice q ps.length cap, .func (.func f) first.toArray caps.toArray] w fun e w' => e = .returned (.bool (ps.any p)) ∧ Ext w w' := by
 refine enter Try.func59 rfl Try.ntmps59 rfl (Cls.start w) ?_
 (simp only [argEnv, Nat.zero_add, Nat.reduceAdd])
 apply W.sr
 apply oas; rfl; rfl
 apply OL.nsr
 apply omv; rfl; rfl
 apply omv; rfl; rfl
 (((first | (with_reducible apply OL.op) | (with_reducible apply QL.op)); (exact Guard.au); rfl; rfl); (exact Pev.call (v := .int .i64 (idxP p ps 0)) rfl (by exact Args.au) (fun _ w2 hw2 => (IIdxF_calls q cap ps f first caps p w2 hlen (SlAt.extS h (hw2.toExt (s := w) (by exact mau) (fun k hk => by exact NotOwned.au))) hf (fun s hs w3 h3 => hp s hs w3 ((hw2.toExt (s := w) (by exact mau) (fun k hk => by exact NotOwned.au)).trans h3))).mono (fun e w3 h => ⟨h.1, hw2.ext h.2⟩))))
 apply obn; rfl; rfl; rfl; apply Bin.geq
 apply oas; rfl; rfl
 apply OL.nx
 apply W.ret
 ((with_reducible apply At.fin1); rfl; rfl; intro w' hw')
 exact ⟨by rw [← idxP_nonneg p ps 0], by (exact hw'.fr)⟩
theorem ITwice_calls (q : Option Addr) (cap : Nat) (l : List Int) (w : World) (hlen : l.length ≤ 1000000) (hcap : l.length ≤ cap) (h : SlAt w w.heap.size q (intV l)) :
  Calls Try.prog 64 [.slice q l.length cap].toArray w fun e w' => e = .returned (.bool (twiceL [] l)) ∧ Ext w w' := by
 refine enter Try.func64 rfl Try.ntmps64 rfl (Cls.start w) ?_
 (simp only [argEnv, Nat.zero_add, Nat.reduceAdd])
 apply W.sr
 apply oas; rfl; rfl
 apply OL.nx
 apply W.seq
 apply W.sr
 apply omv; rfl; rfl
 apply oop; rfl; apply Pev.len_slice; rfl; exact yes; rfl
 apply omv; rfl; rfl
 apply OL.nx
 apply W.block
 refine W.loop (G := Nat) (fun i => i ≤ l.length ∧ twiceL (l.take i) (l.drop i) = twiceL [] l) (fun i => l.length - i)
  (fun i => [(0, true, .slice q l.length cap), (5, true, .slice q l.length cap), (6, true, .int .i64 (l.length : Int)), (7, true, .int .i64 (i : Int))])
  (fun i => Cls [] [w]) 0 ⟨by omega, rfl⟩ (by exact Sub.au) (fun w' hw' => hw') ?_
 rintro i ⟨hi, hrest⟩
 simp only at hi hrest ⊢
 apply W.sr
 apply obn; rfl; rfl; rfl; apply Bin.lss
 apply OL.nx
 apply W.seq
 (refine W.cnd (fun hlt => ?_) (fun hlt => ?_)) <;> (try (exfalso; first | omega | exact hlt trivial | contradiction))
 ·obtain ⟨a, u, hqa, hab, hu, hcell⟩ := Pt.SlAt.int h (show i < l.length by omega)
  have hdr : l.drop i = u :: l.drop (i + 1) := by
   have hl : i < l.length := by omega
   rw [List.drop_eq_getElem_cons hl]
   rw [List.getElem?_eq_getElem hl] at hu
   rw [Option.some.inj hu]
  have htk : l.take (i + 1) = l.take i ++ [u] := by rw [List.take_add_one, hu]; rfl
  have htl : (l.take i).length = i := by rw [List.length_take]; omega
  rw [hdr, twiceL, ← htk] at hrest
  rw [hqa]
  apply W.sk
  apply W.sb
  apply W.sr
  apply omv; rfl; rfl
  apply oop; rfl; apply Pev.idx; rfl; exact yes; rfl; exact yes; rfl; rfl; intro hcond; omega
  apply oop; rfl; apply Pev.load_kept; rfl; exact yes; exact .head _; rfl; intro hcond; assumption; intro hcond; (rw [add_block]; assumption); intro hcond; exact NotOwned.au
  apply oas; rfl; rfl
  apply oas; rfl; rfl
  apply OL.nsr
  apply omv; rfl; rfl
  apply omv; rfl; rfl
  apply oop; rfl; apply Pev.slice_hi; rfl; exact yes; rfl; exact yes; rfl; rfl; intro hcond; omega
  apply omv; rfl; rfl
  (((first | (with_reducible apply OL.op) | (with_reducible apply QL.op)); (exact Guard.au); rfl; rfl); (refine Pev.call (v := .bool ((l.take i).any fun x : Int => decide (x = u))) rfl (by exact Args.au) (fun _ w2 hw2 => ?_)))
  ·have hsl : SlAt w2 w2.heap.size (some a) (intV (l.take i)) := by
    rw [← hqa]
    have h1 := SlAt.extS h (hw2.toExt (s := w) (.head _) (fun k hk => .nil))
    intro hl
    obtain ⟨a9, k1, k2, k3⟩ := h1 (by
     simp only [intV, List.length_map, List.length_take] at hl ⊢
     omega)
    refine ⟨a9, k1, k2, fun j v hj => k3 j v ?_⟩
    simp only [intV, List.map_take] at hj ⊢
    have h9 := (List.getElem?_eq_some_iff.1 hj).1
    rw [List.length_take] at h9
    rw [List.getElem?_take_of_lt (by omega)] at hj
    exact hj
   have hc := IHas_calls (some a) cap (l.take i) u w2 (by omega) hsl
   rw [htl] at hc
   exact hc.mono (fun e w3 h => ⟨h.1, hw2.ext h.2⟩)
  apply OL.nx
  obtain ⟨bh, hbh⟩ : ∃ bh, ((l.take i).any fun x : Int => decide (x = u)) = bh := ⟨_, rfl⟩
  rw [hbh] at hrest ⊢
  cases bh with
  | true =>
   rw [Bool.true_or] at hrest
   refine W.cond rfl (fun _ => ?_) (fun hb => by cases hb)
   apply W.sr
   apply oas; rfl; rfl
   apply OL.nx
   refine W.rt ?_
   ((with_reducible apply At.fin1); rfl; rfl; intro w' hw')
   exact ⟨by rw [← hrest], by (exact hw'.fr)⟩
  | false =>
   rw [Bool.false_or] at hrest
   refine W.cond rfl (fun hb => by cases hb) (fun _ => ?_)
   apply W.skip
   with_reducible apply At.in_normal
   with_reducible apply At.next
   apply W.reg
   apply obn; rfl; rfl; rfl; apply Bin.add_in; omega
   apply omv; rfl; rfl
   apply OL.nil
   exact At.again (i + 1) ⟨by omega, hrest⟩ (by omega) (by exact Sub.au) (fun w' hw' => hw')
 ·rw [List.drop_eq_nil_of_le (by omega), twiceL] at hrest
  refine W.xt ?_
  with_reducible apply At.next
  apply W.sr
  apply oas; rfl; rfl
  apply OL.nx
  apply W.ret
  ((with_reducible apply At.fin1); rfl; rfl; intro w' hw')
  exact ⟨by rw [← hrest], by (exact hw'.fr)⟩
theorem SIdx_calls (q : Option Addr) (cap : Nat) (l : List ByteArray) (s : ByteArray) (w : World) (hlen : l.length ≤ 9223372036854775807) (h : SlAt w w.heap.size q (strs l)) :
  Calls Try.prog 32 #[.slice q l.length cap, Value.string s] w fun e w' => e = .returned (.int .i64 (idxP (fun x : ByteArray => decide (x = s)) l 0)) ∧ Ext w w' := by
 refine enter Try.func32 rfl Try.ntmps32 rfl (Cls.start w) ?_
 (simp only [argEnv, Nat.zero_add, Nat.reduceAdd])
 apply W.sr
 apply oas; rfl; rfl
 apply OL.nx
 apply W.seq
 apply W.sr
 apply omv; rfl; rfl
 apply oop; rfl; apply Pev.len_slice; rfl; exact yes; rfl
 apply omv; rfl; rfl
 apply OL.nx
 apply W.block
 refine W.loop (G := Nat) (fun i => i ≤ l.length ∧ idxP (fun x : ByteArray => decide (x = s)) (l.drop i) i = idxP (fun x : ByteArray => decide (x = s)) l 0) (fun i => l.length - i)
  (fun i => [(8, true, .int .i64 (i : Int)), (7, true, .int .i64 (l.length : Int)), (0, true, .slice q l.length cap), (1, true, Value.string s)])
  (fun i => Cls [] [w]) 0 ⟨by omega, rfl⟩ (by exact Sub.au) (fun w' hw' => hw') ?_
 rintro i ⟨hi, hrest⟩
 apply W.sr
 apply obn; rfl; rfl; rfl; apply Bin.lss
 apply OL.nx
 apply W.seq
 (refine W.cnd (fun hlt => ?_) (fun hlt => ?_)) <;> (try (exfalso; first | omega | exact hlt trivial | contradiction))
 ·obtain ⟨a, u, rfl, hab, hu, hcell⟩ := SlAt.str h (show i < l.length by omega)
  rw [idxP_get hu] at hrest
  apply W.sk
  apply W.sb
  apply W.sr
  apply omv; rfl; rfl
  apply oas; rfl; rfl
  apply OL.nsr
  apply omv; rfl; rfl
  apply omv; rfl; rfl
  apply omv; rfl; rfl
  apply oop; rfl; apply Pev.idx; rfl; exact yes; rfl; exact yes; rfl; rfl; intro hcond; omega
  apply oop; rfl; apply Pev.load_kept; rfl; exact yes; exact .head _; rfl; intro hcond; assumption; intro hcond; (rw [add_block]; assumption); intro hcond; exact NotOwned.au
  apply obn; rfl; rfl; rfl; apply Bin.str_eql
  apply OL.nx
  by_cases heq : u = s
  ·have hd : decide (s = u) = true := decide_eq_true heq.symm
   rw [if_pos (decide_eq_true heq)] at hrest
   rw [hd]
   refine W.cond rfl (fun _ => ?_) (fun hb => by cases hb)
   apply W.sr
   apply omv; rfl; rfl
   apply oas; rfl; rfl
   apply OL.nx
   refine W.rt ?_
   ((with_reducible apply At.fin1); rfl; rfl; intro w' hw')
   exact ⟨by rw [hrest], by (exact hw'.fr)⟩
  ·have hd : decide (s = u) = false := decide_eq_false (fun e => heq e.symm)
   rw [if_neg (by simpa using heq)] at hrest
   rw [hd]
   refine W.cond rfl (fun hb => by cases hb) (fun _ => ?_)
   apply W.skip
   with_reducible apply At.in_normal
   with_reducible apply At.next
   apply W.reg
   apply obn; rfl; rfl; rfl; apply Bin.add_in; omega
   apply omv; rfl; rfl
   apply OL.nil
   exact At.again (i + 1) ⟨by omega, hrest⟩ (by omega) (by exact Sub.au) (fun w' hw' => hw')
 ·refine W.xt ?_
  with_reducible apply At.next
  apply W.sr
  apply oas; rfl; rfl
  apply OL.nx
  apply W.ret
  ((with_reducible apply At.fin1); rfl; rfl; intro w' hw')
  rw [idxP_end (by omega)] at hrest
  exact ⟨by rw [hrest], by (exact hw'.fr)⟩
theorem SHas_calls (q : Option Addr) (cap : Nat) (l : List ByteArray) (s : ByteArray) (w : World) (hlen : l.length ≤ 9223372036854775807) (h : SlAt w w.heap.size q (strs l)) :
  Calls Try.prog 88 #[.slice q l.length cap, Value.string s] w fun e w' => e = .returned (.bool (l.any fun x : ByteArray => decide (x = s))) ∧ Ext w w' := by
 refine enter Try.func88 rfl Try.ntmps88 rfl (Cls.start w) ?_
 (simp only [argEnv, Nat.zero_add, Nat.reduceAdd])
 apply W.sr
 apply oas; rfl; rfl
 apply OL.nsr
 apply omv; rfl; rfl
 apply omv; rfl; rfl
 (((first | (with_reducible apply OL.op) | (with_reducible apply QL.op)); (exact Guard.au); rfl; rfl); (exact Pev.call rfl (by exact Args.au) (fun _ w2 hw2 => (SIdx_calls q cap l s w2 hlen (SlAt.extS h (hw2.toExt (s := w) (.head _) (fun k hk => .nil)))).mono (fun e w3 h => ⟨h.1, hw2.ext h.2⟩))))
 apply obn; rfl; rfl; rfl; apply Bin.geq
 apply oas; rfl; rfl
 apply OL.nx
 apply W.ret
 ((with_reducible apply At.fin1); rfl; rfl; intro w' hw')
 exact ⟨by rw [← idxP_nonneg], by (exact hw'.fr)⟩
theorem SIdxF_calls (q : Option Addr) (cap : Nat) (ps : List ByteArray) (f : FuncId) (first caps : List Value) (p : ByteArray → Bool) (w : World) (hlen : ps.length ≤ 9223372036854775807) (h : SlAt w w.heap.size q (strs ps))
  (hf : callable Try.prog f = true) (hp : ∀ s ∈ ps, ∀ w', Ext w w' → Calls Try.prog f (first ++ [Value.string s] ++ caps).toArray w' fun e w'' => e = .returned (.bool (p s)) ∧ Ext w' w'') :
  Calls Try.prog 87 #[.slice q ps.length cap, .func (.func f) first.toArray caps.toArray] w fun e w' => e = .returned (.int .i64 (idxP p ps 0)) ∧ Ext w w' := by
 refine enter Try.func87 rfl Try.ntmps87 rfl (Cls.start w) ?_
 (simp only [argEnv, Nat.zero_add, Nat.reduceAdd])
 apply W.sr
 apply oas; rfl; rfl
 apply OL.nx
 apply W.seq
 apply W.sr
 apply omv; rfl; rfl
 apply oop; rfl; apply Pev.len_slice; rfl; exact yes; rfl
 apply omv; rfl; rfl
 apply OL.nx
 apply W.block
 refine W.loop (G := Nat) (fun i => i ≤ ps.length ∧ idxP p (ps.drop i) i = idxP p ps 0) (fun i => ps.length - i)
  (fun i => [(8, true, .int .i64 (i : Int)), (7, true, .int .i64 (ps.length : Int)), (0, true, .slice q ps.length cap), (1, true, .func (.func f) first.toArray caps.toArray)])
  (fun i => Cls [] [w]) 0 ⟨by omega, rfl⟩ (by exact Sub.au) (fun w' hw' => hw') ?_
 rintro i ⟨hi, hrest⟩
 apply W.sr
 apply obn; rfl; rfl; rfl; apply Bin.lss
 apply OL.nx
 apply W.seq
 (refine W.cnd (fun hlt => ?_) (fun hlt => ?_)) <;> (try (exfalso; first | omega | exact hlt trivial | contradiction))
 ·obtain ⟨a, u, rfl, hab, hu, hcell⟩ := SlAt.str h (show i < ps.length by omega)
  have hpu := fun w3 => hp u (List.mem_of_getElem? hu) w3
  rw [idxP_get hu] at hrest
  apply W.sk
  apply W.sb
  apply W.sr
  apply omv; rfl; rfl
  apply oas; rfl; rfl
  apply OL.nsr
  apply omv; rfl; rfl
  apply omv; rfl; rfl
  apply omv; rfl; rfl
  apply oop; rfl; apply Pev.idx; rfl; exact yes; rfl; exact yes; rfl; rfl; intro hcond; omega
  apply oop; rfl; apply Pev.load_kept; rfl; exact yes; exact .head _; rfl; intro hcond; assumption; intro hcond; (rw [add_block]; assumption); intro hcond; exact NotOwned.au
  (((first | (with_reducible apply OL.op) | (with_reducible apply QL.op)); (exact Guard.au); rfl; rfl); (apply Pev.callv (first := first) (cap := caps)); rfl; ((first | exact fun _ => rfl | exact fun h => h | (intro h; simp_all; done))); (exact hf); (exact Args.au); (exact (fun _ w2 hw2 => (hpu w2 (hw2.toExt (by exact mau) (fun k hk => by exact NotOwned.au))).mono (fun e w3 h => ⟨h.1, hw2.ext h.2⟩))))
  apply OL.nx
  refine W.cond rfl (fun heq => ?_) (fun heq => ?_)
  ·rw [if_pos heq] at hrest
   apply W.sr
   apply omv; rfl; rfl
   apply oas; rfl; rfl
   apply OL.nx
   refine W.rt ?_
   ((with_reducible apply At.fin1); rfl; rfl; intro w' hw')
   exact ⟨by rw [hrest], by (exact hw'.fr)⟩
  ·rw [if_neg (by simpa using heq)] at hrest
   apply W.skip
   with_reducible apply At.in_normal
   with_reducible apply At.next
   apply W.reg
   apply obn; rfl; rfl; rfl; apply Bin.add_in; omega
   apply omv; rfl; rfl
   apply OL.nil
   exact At.again (i + 1) ⟨by omega, hrest⟩ (by omega) (by exact Sub.au) (fun w' hw' => hw'.thin (by exact Thin.au))
 ·rw [idxP_end (by omega)] at hrest
  refine W.xt ?_
  with_reducible apply At.next
  apply W.sr
  apply oas; rfl; rfl
  apply OL.nx
  apply W.ret
  ((with_reducible apply At.fin1); rfl; rfl; intro w' hw')
  exact ⟨by rw [← hrest], by (exact hw'.fr)⟩
theorem SHasF_calls (q : Option Addr) (cap : Nat) (ps : List ByteArray) (f : FuncId) (first caps : List Value) (p : ByteArray → Bool) (w : World) (hlen : ps.length ≤ 9223372036854775807) (h : SlAt w w.heap.size q (strs ps))
  (hf : callable Try.prog f = true) (hp : ∀ s ∈ ps, ∀ w', Ext w w' → Calls Try.prog f (first ++ [Value.string s] ++ caps).toArray w' fun e w'' => e = .returned (.bool (p s)) ∧ Ext w' w'') :
  Calls Try.prog 61 #[.slice q ps.length cap, .func (.func f) first.toArray caps.toArray] w fun e w' => e = .returned (.bool (ps.any p)) ∧ Ext w w' := by
 refine enter Try.func61 rfl Try.ntmps61 rfl (Cls.start w) ?_
 (simp only [argEnv, Nat.zero_add, Nat.reduceAdd])
 apply W.sr
 apply oas; rfl; rfl
 apply OL.nsr
 apply omv; rfl; rfl
 apply omv; rfl; rfl
 (((first | (with_reducible apply OL.op) | (with_reducible apply QL.op)); (exact Guard.au); rfl; rfl); (exact Pev.call (v := .int .i64 (idxP p ps 0)) rfl (by exact Args.au) (fun _ w2 hw2 => (SIdxF_calls q cap ps f first caps p w2 hlen (SlAt.extS h (hw2.toExt (s := w) (by exact mau) (fun k hk => by exact NotOwned.au))) hf (fun s hs w3 h3 => hp s hs w3 ((hw2.toExt (s := w) (by exact mau) (fun k hk => by exact NotOwned.au)).trans h3))).mono (fun e w3 h => ⟨h.1, hw2.ext h.2⟩))))
 apply obn; rfl; rfl; rfl; apply Bin.geq
 apply oas; rfl; rfl
 apply OL.nx
 apply W.ret
 ((with_reducible apply At.fin1); rfl; rfl; intro w' hw')
 exact ⟨by rw [← idxP_nonneg p ps 0], by (exact hw'.fr)⟩
theorem STwice_calls (q : Option Addr) (cap : Nat) (l : List ByteArray) (w : World) (hlen : l.length ≤ 1000000) (hcap : l.length ≤ cap) (h : SlAt w w.heap.size q (strs l)) :
  Calls Try.prog 63 [.slice q l.length cap].toArray w fun e w' => e = .returned (.bool (twiceL [] l)) ∧ Ext w w' := by
 refine enter Try.func63 rfl Try.ntmps63 rfl (Cls.start w) ?_
 (simp only [argEnv, Nat.zero_add, Nat.reduceAdd])
 apply W.sr
 apply oas; rfl; rfl
 apply OL.nx
 apply W.seq
 apply W.sr
 apply omv; rfl; rfl
 apply oop; rfl; apply Pev.len_slice; rfl; exact yes; rfl
 apply omv; rfl; rfl
 apply OL.nx
 apply W.block
 refine W.loop (G := Nat) (fun i => i ≤ l.length ∧ twiceL (l.take i) (l.drop i) = twiceL [] l) (fun i => l.length - i)
  (fun i => [(0, true, .slice q l.length cap), (5, true, .slice q l.length cap), (6, true, .int .i64 (l.length : Int)), (7, true, .int .i64 (i : Int))])
  (fun i => Cls [] [w]) 0 ⟨by omega, rfl⟩ (by exact Sub.au) (fun w' hw' => hw') ?_
 rintro i ⟨hi, hrest⟩
 simp only at hi hrest ⊢
 apply W.sr
 apply obn; rfl; rfl; rfl; apply Bin.lss
 apply OL.nx
 apply W.seq
 (refine W.cnd (fun hlt => ?_) (fun hlt => ?_)) <;> (try (exfalso; first | omega | exact hlt trivial | contradiction))
 ·obtain ⟨a, u, hqa, hab, hu, hcell⟩ := SlAt.str h (show i < l.length by omega)
  have hdr : l.drop i = u :: l.drop (i + 1) := by
   have hl : i < l.length := by omega
   rw [List.drop_eq_getElem_cons hl]
   rw [List.getElem?_eq_getElem hl] at hu
   rw [Option.some.inj hu]
  have htk : l.take (i + 1) = l.take i ++ [u] := by rw [List.take_add_one, hu]; rfl
  have htl : (l.take i).length = i := by rw [List.length_take]; omega
  rw [hdr, twiceL, ← htk] at hrest
  rw [hqa]
  apply W.sk
  apply W.sb
  apply W.sr
  apply omv; rfl; rfl
  apply oop; rfl; apply Pev.idx; rfl; exact yes; rfl; exact yes; rfl; rfl; intro hcond; omega
  apply oop; rfl; apply Pev.load_kept; rfl; exact yes; exact .head _; rfl; intro hcond; assumption; intro hcond; (rw [add_block]; assumption); intro hcond; exact NotOwned.au
  apply oas; rfl; rfl
  apply oas; rfl; rfl
  apply OL.nsr
  apply omv; rfl; rfl
  apply omv; rfl; rfl
  apply oop; rfl; apply Pev.slice_hi; rfl; exact yes; rfl; exact yes; rfl; rfl; intro hcond; omega
  apply omv; rfl; rfl
  (((first | (with_reducible apply OL.op) | (with_reducible apply QL.op)); (exact Guard.au); rfl; rfl); (refine Pev.call (v := .bool ((l.take i).any fun x : ByteArray => decide (x = u))) rfl (by exact Args.au) (fun _ w2 hw2 => ?_)))
  ·have hsl : SlAt w2 w2.heap.size (some a) (strs (l.take i)) := by
    rw [← hqa]
    have h1 := SlAt.extS h (hw2.toExt (s := w) (.head _) (fun k hk => .nil))
    intro hl
    obtain ⟨a9, k1, k2, k3⟩ := h1 (by
     simp only [strs, List.length_map, List.length_take] at hl ⊢
     omega)
    refine ⟨a9, k1, k2, fun j v hj => k3 j v ?_⟩
    simp only [strs, List.map_take] at hj ⊢
    have h9 := (List.getElem?_eq_some_iff.1 hj).1
    rw [List.length_take] at h9
    rw [List.getElem?_take_of_lt (by omega)] at hj
    exact hj
   have hc := SHas_calls (some a) cap (l.take i) u w2 (by omega) hsl
   rw [htl] at hc
   exact hc.mono (fun e w3 h => ⟨h.1, hw2.ext h.2⟩)
  apply OL.nx
  obtain ⟨bh, hbh⟩ : ∃ bh, ((l.take i).any fun x : ByteArray => decide (x = u)) = bh := ⟨_, rfl⟩
  rw [hbh] at hrest ⊢
  cases bh with
  | true =>
   rw [Bool.true_or] at hrest
   refine W.cond rfl (fun _ => ?_) (fun hb => by cases hb)
   apply W.sr
   apply oas; rfl; rfl
   apply OL.nx
   refine W.rt ?_
   ((with_reducible apply At.fin1); rfl; rfl; intro w' hw')
   exact ⟨by rw [← hrest], by (exact hw'.fr)⟩
  | false =>
   rw [Bool.false_or] at hrest
   refine W.cond rfl (fun hb => by cases hb) (fun _ => ?_)
   apply W.skip
   with_reducible apply At.in_normal
   with_reducible apply At.next
   apply W.reg
   apply obn; rfl; rfl; rfl; apply Bin.add_in; omega
   apply omv; rfl; rfl
   apply OL.nil
   exact At.again (i + 1) ⟨by omega, hrest⟩ (by omega) (by exact Sub.au) (fun w' hw' => hw')
 ·rw [List.drop_eq_nil_of_le (by omega), twiceL] at hrest
  refine W.xt ?_
  with_reducible apply At.next
  apply W.sr
  apply oas; rfl; rfl
  apply OL.nx
  apply W.ret
  ((with_reducible apply At.fin1); rfl; rfl; intro w' hw')
  exact ⟨by rw [← hrest], by (exact hw'.fr)⟩
theorem bare_calls (x : NdE) (w : World) (hl : NdLen x.1) : Calls Try.prog 58 [.agg (ndC x).toArray].toArray w fun e w' => e = .returned (.bool (bareE x.1)) ∧ Ext w w' := by
 obtain ⟨h1, h2, h3, h4⟩ := hl
 refine enter Try.func58 rfl Try.ntmps58 rfl (Cls.start w) ?_
 (simp only [argEnv, Nat.zero_add, Nat.reduceAdd])
 simp only [ndC]
 apply W.sr
 apply OL.box; rfl; rfl; exact CellsL.agg; (intro bk hbk; simp only [AllLe, and_true] at hbk)
 apply oas; rfl; rfl
 apply OL.nx
 apply W.seq
 apply W.sr
 apply ofa; rfl; rfl; rfl
 apply old; rfl; rfl; exact .head _; rfl; rfl
 apply OL.nx
 apply W.block
 apply W.sr
 apply obn; rfl; rfl; rfl; apply Bin.eql
 apply oas; rfl; rfl
 apply OL.nx
 by_cases k0 : x.1.kind = 0
 ·refine W.cond rfl (fun _ => ?_) (fun hb => absurd (of_decide_eq_false hb) (by omega))
  apply W.sr
  apply ofa; rfl; rfl; rfl
  apply old; rfl; rfl; exact .head _; rfl; rfl
  apply obn; rfl; rfl; rfl; apply Bin.eql
  apply omv; rfl; rfl
  apply oy; rfl; rfl; rfl; apply Pev.fld; rfl; exact yes; rfl
  apply oy; rfl; rfl; rfl; apply Pev.load_blk; rfl; exact fun h => h; exact .head _; rfl; rfl
  apply oy; rfl; rfl; rfl; apply Pev.len_slice; rfl; exact fun h => h; rfl
  apply oy; rfl; rfl; rfl; apply Pev.fld; rfl; exact yes; rfl
  apply oy; rfl; rfl; rfl; apply Pev.load_blk; rfl; exact fun h => h; exact .head _; rfl; rfl
  apply oy; rfl; rfl; rfl; apply Pev.len_slice; rfl; exact fun h => h; rfl
  apply oy; rfl; rfl; rfl; apply Pev.bin; rfl; exact fun h => h; rfl; exact fun h => h; intro hcond; apply Bin.add_in; omega
  apply oy; rfl; rfl; rfl; apply Pev.fld; rfl; exact yes; rfl
  apply oy; rfl; rfl; rfl; apply Pev.load_blk; rfl; exact fun h => h; exact .head _; rfl; rfl
  apply oy; rfl; rfl; rfl; apply Pev.len_slice; rfl; exact fun h => h; rfl
  apply oy; rfl; rfl; rfl; apply Pev.bin; rfl; exact fun h => h; rfl; exact fun h => h; intro hcond; apply Bin.add_in; omega
  apply oy; rfl; rfl; rfl; apply Pev.fld; rfl; exact yes; rfl
  apply oy; rfl; rfl; rfl; apply Pev.load_blk; rfl; exact fun h => h; exact .head _; rfl; rfl
  apply oy; rfl; rfl; rfl; apply Pev.len_slice; rfl; exact fun h => h; rfl
  apply oy; rfl; rfl; rfl; apply Pev.bin; rfl; exact fun h => h; rfl; exact fun h => h; intro hcond; apply Bin.add_in; omega
  apply oy; rfl; rfl; rfl; apply Pev.bin; rfl; exact fun h => h; rfl; exact yes; intro hcond; apply Bin.eql
  apply oop; rfl; apply Pev.pick_and; rfl; exact yes; rfl; exact fun h => h
  apply oas; rfl; rfl
  apply OL.nx
  refine W.rt ?_
  ((with_reducible apply At.fin1); rfl; rfl; intro w' hw')
  refine ⟨?_, by (exact hw'.fr)⟩
  unfold bareE
  rw [if_pos k0]
  have e1 : decide ((x.1.path.length : Int) + (x.1.names.length : Int) + (x.1.words.length : Int) + (x.1.kids.length : Int) = 0) = decide (x.1.path.length + x.1.names.length + x.1.words.length + x.1.kids.length = 0) := decide_eq_decide.2 (by omega)
  rw [e1]
 refine W.cond rfl (fun hb => absurd (of_decide_eq_true hb) k0) (fun _ => ?_)
 apply W.sr
 apply obn; rfl; rfl; rfl; apply Bin.eql
 apply oas; rfl; rfl
 apply OL.nx
 by_cases k1 : x.1.kind = 1
 ·refine W.cond rfl (fun _ => ?_) (fun hb => absurd (of_decide_eq_false hb) (by omega))
  apply W.sr
  apply ofa; rfl; rfl; rfl
  apply old; rfl; rfl; exact .head _; rfl; rfl
  apply oop; rfl; apply Pev.len_slice; rfl; exact yes; rfl
  apply ofa; rfl; rfl; rfl
  apply old; rfl; rfl; exact .head _; rfl; rfl
  apply oop; rfl; apply Pev.len_slice; rfl; exact yes; rfl
  apply obn; rfl; rfl; rfl; apply Bin.add_in; omega
  apply ofa; rfl; rfl; rfl
  apply old; rfl; rfl; exact .head _; rfl; rfl
  apply oop; rfl; apply Pev.len_slice; rfl; exact yes; rfl
  apply obn; rfl; rfl; rfl; apply Bin.add_in; omega
  apply ofa; rfl; rfl; rfl
  apply old; rfl; rfl; exact .head _; rfl; rfl
  apply oop; rfl; apply Pev.len_slice; rfl; exact yes; rfl
  apply obn; rfl; rfl; rfl; apply Bin.add_in; omega
  apply obn; rfl; rfl; rfl; apply Bin.eql
  apply oas; rfl; rfl
  apply OL.nx
  refine W.rt ?_
  ((with_reducible apply At.fin1); rfl; rfl; intro w' hw')
  refine ⟨?_, by (exact hw'.fr)⟩
  unfold bareE
  rw [if_neg k0, if_pos k1]
  have e1 : decide ((x.1.path.length : Int) + (x.1.names.length : Int) + (x.1.words.length : Int) + (x.1.kids.length : Int) = 0) = decide (x.1.path.length + x.1.names.length + x.1.words.length + x.1.kids.length = 0) := decide_eq_decide.2 (by omega)
  rw [e1]
 refine W.cond rfl (fun hb => absurd (of_decide_eq_true hb) k1) (fun _ => ?_)
 apply W.sr
 apply obn; rfl; rfl; rfl; apply Bin.eql
 apply oas; rfl; rfl
 apply OL.nx
 by_cases k2 : x.1.kind = 2
 ·refine W.cond rfl (fun _ => ?_) (fun hb => absurd (of_decide_eq_false hb) (by omega))
  apply W.sr
  apply ofa; rfl; rfl; rfl
  apply old; rfl; rfl; exact .head _; rfl; rfl
  apply obn; rfl; rfl; rfl; apply Bin.eql
  apply omv; rfl; rfl
  apply oy; rfl; rfl; rfl; apply Pev.fld; rfl; exact yes; rfl
  apply oy; rfl; rfl; rfl; apply Pev.load_blk; rfl; exact fun h => h; exact .head _; rfl; rfl
  apply oy; rfl; rfl; rfl; apply Pev.len_slice; rfl; exact fun h => h; rfl
  apply oy; rfl; rfl; rfl; apply Pev.bin; rfl; exact fun h => h; rfl; exact yes; intro hcond; apply Bin.eql
  apply oop; rfl; apply Pev.pick_and; rfl; exact yes; rfl; exact fun h => h
  apply omv; rfl; rfl
  apply oy; rfl; rfl; rfl; apply Pev.fld; rfl; exact yes; rfl
  apply oy; rfl; rfl; rfl; apply Pev.load_blk; rfl; exact fun h => h; exact .head _; rfl; rfl
  apply oy; rfl; rfl; rfl; apply Pev.len_slice; rfl; exact fun h => h; rfl
  apply oy; rfl; rfl; rfl; apply Pev.bin; rfl; exact fun h => h; rfl; exact yes; intro hcond; apply Bin.gtr
  apply oop; rfl; apply Pev.pick_and; rfl; exact yes; rfl; exact fun h => h
  apply omv; rfl; rfl
  apply oy; rfl; rfl; rfl; apply Pev.fld; rfl; exact yes; rfl
  apply oy; rfl; rfl; rfl; apply Pev.load_blk; rfl; exact fun h => h; exact .head _; rfl; rfl
  apply oy; rfl; rfl; rfl; apply Pev.len_slice; rfl; exact fun h => h; rfl
  apply oy; rfl; rfl; rfl; apply Pev.fld; rfl; exact yes; rfl
  apply oy; rfl; rfl; rfl; apply Pev.load_blk; rfl; exact fun h => h; exact .head _; rfl; rfl
  apply oy; rfl; rfl; rfl; apply Pev.len_slice; rfl; exact fun h => h; rfl
  apply oy; rfl; rfl; rfl; apply Pev.bin; rfl; exact fun h => h; rfl; exact yes; intro hcond; apply Bin.add_in; omega
  apply oy; rfl; rfl; rfl; apply Pev.bin; rfl; exact fun h => h; rfl; exact fun h => h; intro hcond; apply Bin.eql
  apply oop; rfl; apply Pev.pick_and; rfl; exact yes; rfl; exact fun h => h
  apply oas; rfl; rfl
  apply OL.nx
  refine W.rt ?_
  ((with_reducible apply At.fin1); rfl; rfl; intro w' hw')
  refine ⟨?_, by (exact hw'.fr)⟩
  unfold bareE
  rw [if_neg k0, if_neg k1, if_pos k2]
  congr 2
  simp only [← Bool.and_assoc]
  have e1 : decide ((x.1.words.length : Int) = 0) = decide (x.1.words.length = 0) := decide_eq_decide.2 (by omega)
  have e2 : decide (0 < (x.1.path.length : Int)) = decide (0 < x.1.path.length) := decide_eq_decide.2 (by omega)
  have e3 : decide ((x.1.kids.length : Int) = (x.1.names.length : Int) + 1) = decide (x.1.kids.length = x.1.names.length + 1) := decide_eq_decide.2 (by omega)
  rw [e1, e2, e3]
 refine W.cond rfl (fun hb => absurd (of_decide_eq_true hb) k2) (fun _ => ?_)
 apply W.sr
 apply obn; rfl; rfl; rfl; apply Bin.eql
 apply oas; rfl; rfl
 apply OL.nx
 by_cases k3 : x.1.kind = 3
 ·refine W.cond rfl (fun _ => ?_) (fun hb => absurd (of_decide_eq_false hb) (by omega))
  apply W.sr
  apply ofa; rfl; rfl; rfl
  apply old; rfl; rfl; exact .head _; rfl; rfl
  apply obn; rfl; rfl; rfl; apply Bin.eql
  apply omv; rfl; rfl
  apply oy; rfl; rfl; rfl; apply Pev.fld; rfl; exact yes; rfl
  apply oy; rfl; rfl; rfl; apply Pev.load_blk; rfl; exact fun h => h; exact .head _; rfl; rfl
  apply oy; rfl; rfl; rfl; apply Pev.len_slice; rfl; exact fun h => h; rfl
  apply oy; rfl; rfl; rfl; apply Pev.bin; rfl; exact fun h => h; rfl; exact yes; intro hcond; apply Bin.eql
  apply oop; rfl; apply Pev.pick_and; rfl; exact yes; rfl; exact fun h => h
  apply omv; rfl; rfl
  apply oy; rfl; rfl; rfl; apply Pev.fld; rfl; exact yes; rfl
  apply oy; rfl; rfl; rfl; apply Pev.load_blk; rfl; exact fun h => h; exact .head _; rfl; rfl
  apply oy; rfl; rfl; rfl; apply Pev.len_slice; rfl; exact fun h => h; rfl
  apply oy; rfl; rfl; rfl; apply Pev.bin; rfl; exact fun h => h; rfl; exact yes; intro hcond; apply Bin.gtr
  apply oop; rfl; apply Pev.pick_and; rfl; exact yes; rfl; exact fun h => h
  apply omv; rfl; rfl
  apply oy; rfl; rfl; rfl; apply Pev.fld; rfl; exact yes; rfl
  apply oy; rfl; rfl; rfl; apply Pev.load_blk; rfl; exact fun h => h; exact .head _; rfl; rfl
  apply oy; rfl; rfl; rfl; apply Pev.len_slice; rfl; exact fun h => h; rfl
  apply oy; rfl; rfl; rfl; apply Pev.fld; rfl; exact yes; rfl
  apply oy; rfl; rfl; rfl; apply Pev.load_blk; rfl; exact fun h => h; exact .head _; rfl; rfl
  apply oy; rfl; rfl; rfl; apply Pev.len_slice; rfl; exact fun h => h; rfl
  apply oy; rfl; rfl; rfl; apply Pev.bin; rfl; exact fun h => h; rfl; exact yes; intro hcond; apply Bin.add_in; omega
  apply oy; rfl; rfl; rfl; apply Pev.bin; rfl; exact fun h => h; rfl; exact fun h => h; intro hcond; apply Bin.eql
  apply oop; rfl; apply Pev.pick_and; rfl; exact yes; rfl; exact fun h => h
  apply oas; rfl; rfl
  apply OL.nx
  refine W.rt ?_
  ((with_reducible apply At.fin1); rfl; rfl; intro w' hw')
  refine ⟨?_, by (exact hw'.fr)⟩
  unfold bareE
  rw [if_neg k0, if_neg k1, if_neg k2, if_pos k3]
  congr 2
  simp only [← Bool.and_assoc]
  have e1 : decide ((x.1.names.length : Int) = 0) = decide (x.1.names.length = 0) := decide_eq_decide.2 (by omega)
  have e2 : decide (0 < (x.1.path.length : Int)) = decide (0 < x.1.path.length) := decide_eq_decide.2 (by omega)
  have e3 : decide ((x.1.kids.length : Int) = (x.1.words.length : Int) + 1) = decide (x.1.kids.length = x.1.words.length + 1) := decide_eq_decide.2 (by omega)
  rw [e1, e2, e3]
 refine W.cond rfl (fun hb => absurd (of_decide_eq_true hb) k3) (fun _ => ?_)
 apply W.skip
 with_reducible apply At.in_normal
 with_reducible apply At.next
 apply W.sr
 apply oas; rfl; rfl
 apply OL.nx
 apply W.ret
 ((with_reducible apply At.fin1); rfl; rfl; intro w' hw')
 refine ⟨?_, by (exact hw'.fr)⟩
 unfold bareE
 rw [if_neg k0, if_neg k1, if_neg k2, if_neg k3]
end Go.Proofs.Ytleggdmhihcafaa.pt

/- The walks of match.node and match.Check, at a tree that is valid. Conditions: none. -/
namespace Go.Eng
open Go.RowKit
theorem Bin.ptr_same {P : Program} {t : TypeId} {a : Addr} (hu : ptrB P t = true) : Bin P .neq t (.pointer (some a)) (.pointer (some a)) (.bool false) := ⟨fun x y w => by
 obtain ⟨e, j, h1, h2, h3, h4⟩ := ptrB_spec hu
 rw [Sem.run_bind, guard_ptr, Result.andThen_ok, Lib.run_neq_ptr_same w _ h1 h2]⟩
end Go.Eng
namespace Go.Pt
open Go.Eng Go.RowKit
def NodeOk (D : List Da) (k : Nat) (x : Pt.Nd) : Prop := ∃ d : Nat, bareE x = true ∧ 0 ≤ x.row ∧ (∀ n ∈ x.path, 0 ≤ n) ∧ (∀ n ∈ x.words, -1073741824 ≤ n ∧ n ≤ 1073741823) ∧ (∀ s ∈ x.names, dOf D s = some d) ∧ x.names.Nodup ∧ x.words.Nodup ∧ ∀ (i : Nat) (y : Int), x.kids[i]? = some y → (y = -1 ↔ (i = x.names.length ∧ x.kind = 2 ∧ 0 < x.names.length ∧ x.names.length = (consOf D d).length)) ∧ -1 ≤ y ∧ y < (k : Int)
def ValidT (D : List Da) (t : List Pt.Nd) : Prop := 0 < t.length ∧ t.length ≤ 4096 ∧ ∀ (k : Nat) (x : Pt.Nd), t[k]? = some x → NodeOk D k x
structure MapAt (D : List Da) (w : World) (bm : Nat) (qd : Option Addr) (ds : List (Da × DY)) : Prop where
 eq : ds.map Prod.fst = D
 arr : Arr datR w (low w) ds qd
 map : (mapS bm (datV (datP qd) 0 D)).holds w
 lt : bm < w.heap.size
theorem MapAt.ext {D : List Da} {w w' : World} {bm : Nat} {qd : Option Addr} {ds : List (Da × DY)} (h : MapAt D w bm qd ds) (hx : Ext w w') : MapAt D w' bm qd ds :=
 ⟨h.eq, h.arr.ext hx, (mapS bm (datV (datP qd) 0 D)).stab w w' (fun k hk => hx.block k (by rw [show k = bm from hk]; exact h.lt) id) h.map, Nat.lt_of_lt_of_le h.lt hx.size⟩
theorem MapAt.get {D : List Da} {w : World} {bm : Nat} {qd : Option Addr} {ds : List (Da × DY)} (h : MapAt D w bm qd ds) {s : ByteArray} {d : Nat} (hs : dOf D s = some d) : ∃ ad u, qd = some ad ∧ ad.block < w.heap.size ∧ mget (datV (datP qd) 0 D) s = some (.pointer (some (ad.add (d * 3)))) ∧ u ∈ ds ∧ u.1.cons = consOf D d ∧ CellsAt w (ad.add (d * 3)) [.string u.2.name, .int .i64 u.2.params, .slice u.2.q u.1.cons.length u.2.cap] := by
 unfold dOf at hs
 obtain ⟨z, hz, hzd⟩ := Option.map_eq_some_iff.1 hs
 obtain ⟨d', c⟩ := z
 obtain rfl : d' = d := hzd
 have hdd : d' < ds.length := by
  have hm := (conAt_mem hz).1
  unfold consOf at hm
  cases hx : D[d']? with
  | none => rw [hx] at hm; cases hm
  | some x =>
   have := (List.getElem?_eq_some_iff.1 hx).1
   rw [← h.eq, List.length_map] at this
   exact this
 obtain ⟨ad, ud, hqd, hadb, hud, hcelld, _⟩ := h.arr.get hdd
 refine ⟨ad, ud, hqd, hadb, ?_, List.mem_of_getElem? hud, ?_, hcelld⟩
 ·rw [datV_get, hz, hqd]
  show some (datP (some ad) (0 + d')) = _
  rw [Nat.zero_add]
  rfl
 ·unfold consOf
  rw [← h.eq, List.getElem?_map, hud]
  rfl
end Go.Pt
namespace Go.Proofs.Ytleggdmhihcafaa.pt
open Go.RowKit Go.Eng Go.Pt
set_option maxRecDepth 100000
theorem node1_calls (n : Int) (w : World) : Calls Try.prog 57 [.int .i64 n].toArray w fun e w' => e = .returned (.bool (decide (n < 0))) ∧ Ext w w' := by
 refine enter Try.func57 rfl Try.ntmps57 rfl (Cls.start w) ?_
 (simp only [argEnv, Nat.zero_add, Nat.reduceAdd])
 apply W.sr
 apply oas; rfl; rfl
 apply OL.nsr
 apply omv; rfl; rfl
 apply obn; rfl; rfl; rfl; apply Bin.lss
 apply oas; rfl; rfl
 apply OL.nx
 apply W.ret
 ((with_reducible apply At.fin1); rfl; rfl; intro w' hw')
 exact ⟨rfl, by (exact hw'.fr)⟩
theorem node2_calls (n : Int) (w : World) : Calls Try.prog 60 [.int .i64 n].toArray w fun e w' => e = .returned (.bool (decide (n < -1073741824) || decide (1073741823 < n))) ∧ Ext w w' := by
 refine enter Try.func60 rfl Try.ntmps60 rfl (Cls.start w) ?_
 (simp only [argEnv, Nat.zero_add, Nat.reduceAdd])
 apply W.sr
 apply oas; rfl; rfl
 apply OL.nsr
 apply omv; rfl; rfl
 apply obn; rfl; rfl; rfl; apply Bin.lss
 apply omv; rfl; rfl
 apply ono; rfl; rfl; rfl; apply Pev.move; rfl; exact yes
 apply ono; rfl; rfl; rfl; apply Pev.bin; rfl; exact fun h => h; rfl; exact yes; intro hcond; apply Bin.gtr
 apply oop; rfl; apply Pev.pick_or; rfl; exact yes; rfl; exact fun h => h
 apply oas; rfl; rfl
 apply OL.nx
 apply W.ret
 ((with_reducible apply At.fin1); rfl; rfl; intro w' hw')
 exact ⟨rfl, by (exact hw'.fr)⟩
theorem node3_calls (s : ByteArray) (b3 bm : Nat) (M : MP) (a : Addr) (w : World) (hc : w.cell? ⟨b3, 0, none⟩ = some (.map (some bm))) (hb : b3 < w.heap.size) (hm : (mapS bm M).holds w) (hbm : bm < w.heap.size) (hg : mget M s = some (.pointer (some a))) : Calls Try.prog 62 [.string s, .pointer (some ⟨b3, 0, none⟩)].toArray w fun e w' => e = .returned (.bool false) ∧ Ext w w' := by
 refine enter Try.func62 rfl Try.ntmps62 rfl (Cls.start w) ?_
 (simp only [argEnv, Nat.zero_add, Nat.reduceAdd])
 apply W.sr
 apply oas; rfl; rfl
 apply OL.nsr
 apply oop; rfl; apply Pev.load_kept; rfl; exact yes; exact .head _; rfl; intro hcond; assumption; intro hcond; assumption; intro hcond; exact NotOwned.au
 apply omv; rfl; rfl
 (((first | (with_reducible apply OL.op) | (with_reducible apply QL.op)); (exact Guard.au); rfl; rfl); (refine Pev.lookup_v (m := M) (v := .pointer (some a)) (zv := .pointer none) rfl (by (first | exact fun _ => rfl | exact fun h => h | (intro h; simp_all; done))) rfl (by (first | exact fun _ => rfl | exact fun h => h | (intro h; simp_all; done))) rfl rfl (fun w2 hw2 => (mapS bm M).stab w w2 (fun k hk => hw2.same (.head _) (fun k hk => .nil) k (by rw [show k = bm from hk]; exact hbm)) hm) (by rw [hg]; rfl)))
 apply obn; rfl; rfl; rfl; apply Bin.ptr_nil; rfl
 apply oas; rfl; rfl
 apply OL.nx
 apply W.ret
 ((with_reducible apply At.fin1); rfl; rfl; intro w' hw')
 exact ⟨rfl, by (exact hw'.fr)⟩
theorem node4_calls (s s0 : ByteArray) (b3 b4 bm : Nat) (M : MP) (a : Addr) (q : Option Addr) (n c : Nat) (w : World) (hc : w.cell? ⟨b3, 0, none⟩ = some (.map (some bm))) (hb : b3 < w.heap.size) (hc4 : w.cell? ⟨b4, 0 + 3, none⟩ = some (.slice q n c)) (hb4 : b4 < w.heap.size) (hn : 0 < n) (an : Addr) (hq : q = some an) (han : an.block < w.heap.size) (hs0 : w.cell? (an.add (0 * 1)) = some (.string s0)) (hm : (mapS bm M).holds w) (hbm : bm < w.heap.size) (hg : mget M s = some (.pointer (some a))) (hg0 : mget M s0 = some (.pointer (some a))) : Calls Try.prog 65 [.string s, .pointer (some ⟨b3, 0, none⟩), .pointer (some ⟨b4, 0, none⟩)].toArray w fun e w' => e = .returned (.bool false) ∧ Ext w w' := by
 refine enter Try.func65 rfl Try.ntmps65 rfl (Cls.start w) ?_
 subst hq
 have hst : ∀ w2, Cls [] [w] w2 → (mapS bm M).holds w2 := fun w2 hw2 => (mapS bm M).stab w w2 (fun k hk => hw2.same (.head _) (fun k hk => .nil) k (by rw [show k = bm from hk]; exact hbm)) hm
 (simp only [argEnv, Nat.zero_add, Nat.reduceAdd])
 apply W.sr
 apply oas; rfl; rfl
 apply OL.nx
 apply W.seq
 apply W.regd0; decide +kernel; kernel_rfl; decide +kernel; exact fun w hw => hw.drew
 apply qop; rfl; apply Pev.load_kept; rfl; exact yes; exact .head _; rfl; intro hcond; assumption; intro hcond; assumption; intro hcond; exact NotOwned.au
 apply qmv; rfl; rfl
 (((first | (with_reducible apply OL.op) | (with_reducible apply QL.op)); (exact Guard.au); rfl; rfl); (refine Pev.lookup_v (m := M) (v := .pointer (some a)) (zv := .pointer none) rfl (by (first | exact fun _ => rfl | exact fun h => h | (intro h; simp_all; done))) rfl (by (first | exact fun _ => rfl | exact fun h => h | (intro h; simp_all; done))) rfl rfl hst (by rw [hg]; rfl)))
 apply qop; rfl; apply Pev.load_kept; rfl; exact yes; exact .head _; rfl; intro hcond; assumption; intro hcond; assumption; intro hcond; exact NotOwned.au
 apply qfa; rfl; rfl; rfl
 apply qop; rfl; apply Pev.load_kept; rfl; exact yes; exact .head _; rfl; intro hcond; assumption; intro hcond; assumption; intro hcond; exact NotOwned.au
 apply qop; rfl; apply Pev.idx; rfl; exact yes; rfl; exact yes; rfl; rfl; intro hcond; omega
 apply qop; rfl; apply Pev.load_kept; rfl; exact yes; exact .head _; rfl; intro hcond; assumption; intro hcond; assumption; intro hcond; exact NotOwned.au
 (((first | (with_reducible apply OL.op) | (with_reducible apply QL.op)); (exact Guard.au); rfl; rfl); (refine Pev.lookup_v (m := M) (v := .pointer (some a)) (zv := .pointer none) rfl (by (first | exact fun _ => rfl | exact fun h => h | (intro h; simp_all; done))) rfl (by (first | exact fun _ => rfl | exact fun h => h | (intro h; simp_all; done))) rfl rfl hst (by rw [hg0]; rfl)))
 skip
 (((first | (with_reducible apply OL.op) | (with_reducible apply QL.op)); (exact Guard.au); rfl; rfl); (refine Pev.bin (r := .bool false) rfl (by (first | exact fun _ => rfl | exact fun h => h | (intro h; simp_all; done))) rfl (by (first | exact fun _ => rfl | exact fun h => h | (intro h; simp_all; done))) (fun _ => Bin.ptr_same (by kernel_rfl))))
 apply qas; rfl; rfl
 apply QL.nil
 with_reducible apply At.next
 apply W.ret
 ((with_reducible apply At.fin1); rfl; rfl; intro w' hw')
 exact ⟨rfl, by (exact hw'.fr)⟩
theorem node_calls (D : List Da) (bm : Nat) (qd : Option Addr) (ds : List (Da × DY)) (x : NdE) (k : Nat) (w : World) (hM : MapAt D w bm qd ds) (hx : NdAt w x) (hok : NodeOk D k x.1) : Calls Try.prog 29 [.map (some bm), .agg (ndC x).toArray, .int .i64 (k : Int)].toArray w fun e w' => e = .returned (.int .i64 0) ∧ Ext w w' := by
 obtain ⟨d, hbare, hrow, hpath, hwords, hnames, hnn, hwn, hkids⟩ := hok
 obtain ⟨l1, l2, l3, l4⟩ := hx.l
 refine enter Try.func29 rfl Try.ntmps29 rfl (Cls.start w) ?_
 (simp only [argEnv, Nat.zero_add, Nat.reduceAdd])
 have hbc : ∀ w2, Calls Try.prog 58 [.agg (ndC x).toArray].toArray w2 fun e w' => e = .returned (.bool true) ∧ Ext w2 w' := fun w2 => by
  have := bare_calls x w2 hx.l
  rw [hbare] at this
  exact this
 simp only [ndC] at hbc ⊢
 apply W.sr
 apply OL.box; rfl; rfl; exact CellsL.one rfl; (intro bk hbk; simp only [AllLe, and_true] at hbk)
 apply OL.box; rfl; rfl; exact CellsL.agg; (intro bk hbk; simp only [AllLe, and_true] at hbk)
 apply oas; rfl; rfl
 apply OL.nsr
 apply oas; rfl; rfl
 apply OL.nx
 apply W.sb
 apply W.sr
 apply oop; rfl; apply Pev.load_blkA; rfl; exact yes; exact .head _; rfl; exact Take.au
 rename_i b3 hb3
 revert bk
 intro b4 hb4
 obtain ⟨H0, hH0⟩ : ∃ H0 : List Eng.Item, H0 = [blk b4 77 (ndC x), blk b3 63 [.map (some bm)]] := ⟨_, rfl⟩
 have hno : ∀ k, k < w.heap.size → NotOwned [blk b4 77 (ndC x), blk b3 63 [.map (some bm)]] k := fun k hk => NotOwned.blk (by omega) (NotOwned.blk (by omega) .nil)
 have hxt : ∀ w2, Cls [blk b4 77 (ndC x), blk b3 63 [.map (some bm)]] [w] w2 → Ext w w2 := fun w2 hw2 => hw2.toExt (.head _) hno
 (((first | (with_reducible apply OL.op) | (with_reducible apply QL.op)); (exact Guard.au); rfl; rfl); (exact Pev.call (v := .bool true) rfl (by exact Args.au) (fun _ w2 hw2 => (hbc w2).mono fun e w3 h => ⟨h.1, hw2.ext h.2⟩)))
 apply oop; rfl; apply Pev.not; rfl; exact yes
 apply oas; rfl; rfl
 apply OL.nx
 refine W.cond rfl (fun hb => by cases hb) (fun _ => ?_)
 apply W.sr
 apply ofa; rfl; rfl; rfl
 apply old; rfl; rfl; exact .head _; rfl; rfl
 apply obn; rfl; rfl; rfl; apply Bin.lss
 apply omv; rfl; rfl
 apply ono; rfl; rfl; rfl; apply Pev.fld; rfl; exact yes; rfl
 apply ono; rfl; rfl; rfl; apply Pev.load_blk; rfl; exact fun h => h; exact .head _; rfl; rfl
 apply ono; rfl; rfl; rfl; apply Pev.move; rfl; exact yes
 have hpa : (x.1.path.any fun n => decide (n < 0)) = false := List.any_eq_false.2 fun n hn => by have := hpath n hn; simp; omega
 have hwa : (x.1.words.any fun n => decide (n < -1073741824) || decide (1073741823 < n)) = false := List.any_eq_false.2 fun n hn => by have := hwords n hn; simp; omega
 have hra : decide (x.1.row < 0) = false := decide_eq_false (by omega)
 have hna : (x.1.names.any fun _ => false) = false := List.any_eq_false.2 fun n hn => by simp
 (((first | (with_reducible apply OL.op) | (with_reducible apply QL.op)); (exact Guard.au); rfl; rfl); (refine Pev.call (v := .bool false) rfl (by exact Args.au) (fun _ w2 hw2 => ?_)))
 ·have hc := IHasF_calls x.2.p.1 x.2.p.2 x.1.path 57 [] [] (fun n => decide (n < 0)) w2 (by omega) (hx.ext (hxt w2 hw2)).p rfl (fun n hn w' _ => node1_calls n w')
  rw [hpa] at hc
  exact hc.mono (fun e w3 h => ⟨h.1, hw2.ext h.2⟩)
 apply oop; rfl; apply Pev.pick_or; rfl; exact yes; rfl; exact fun h => h
 apply omv; rfl; rfl
 apply ono; rfl; rfl; rfl; apply Pev.fld; rfl; exact yes; rfl
 apply ono; rfl; rfl; rfl; apply Pev.load_blk; rfl; exact fun h => h; exact .head _; rfl; rfl
 (((first | (with_reducible apply OL.op) | (with_reducible apply QL.op)); (exact Guard.au); rfl; rfl); (refine Pev.call (v := .bool false) rfl (by exact Args.au) (fun _ w2 hw2 => ?_)))
 ·have hc := IHasF_calls x.2.w.1 x.2.w.2 x.1.words 60 [] [] (fun n => decide (n < -1073741824) || decide (1073741823 < n)) w2 (by omega) (hx.ext (hxt w2 hw2)).d rfl (fun n hn w' _ => node2_calls n w')
  rw [hwa] at hc
  exact hc.mono (fun e w3 h => ⟨h.1, hw2.ext h.2⟩)
 apply oop; rfl; apply Pev.pick_or; rfl; exact yes; rfl; exact fun h => h
 apply oas; rfl; rfl
 apply OL.nx
 rw [hra]
 refine W.cond rfl (fun hb => by cases hb) (fun _ => ?_)
 apply W.sr
 apply ofa; rfl; rfl; rfl
 apply old; rfl; rfl; exact .head _; rfl; rfl
 apply oop; rfl; apply Pev.makeFunc; exact Args.au; exact Args.au
 (((first | (with_reducible apply OL.op) | (with_reducible apply QL.op)); (exact Guard.au); rfl; rfl); (refine Pev.call (v := .bool false) rfl (by exact Args.au) (fun _ w2 hw2 => ?_)))
 ·have hb := hw2.item (i := blk b3 63 [.map (some bm)]) (by exact mau)
  have hl := hw2.lt _ (show blk b3 63 [.map (some bm)] ∈ _ by exact mau) b3 rfl
  have hM2 := hM.ext (hxt w2 hw2)
  have hc := SHasF_calls x.2.n.1 x.2.n.2 x.1.names 62 [] [.pointer (some ⟨b3, 0, none⟩)] (fun _ => false) w2 (by omega) (hx.ext (hxt w2 hw2)).n rfl (fun s hs w' hx' => by
   obtain ⟨ad, u, k1, k2, k3, k4, k5, k6⟩ := (hM2.ext hx').get (hnames s hs)
   exact node3_calls s b3 bm _ _ w' (by
    rw [cell_heap (w := w2) (hx'.block b3 hl id), blk_cell hb]
    rfl) (Nat.lt_of_lt_of_le hl hx'.size) (hM2.ext hx').map (hM2.ext hx').lt k3)
  rw [hna] at hc
  exact hc.mono (fun e w3 h => ⟨h.1, hw2.ext h.2⟩)
 apply oas; rfl; rfl
 apply OL.nx
 refine W.cond rfl (fun hb => by cases hb) (fun _ => ?_)
 apply W.sr
 apply ofa; rfl; rfl; rfl
 apply old; rfl; rfl; exact .head _; rfl; rfl
 (((first | (with_reducible apply OL.op) | (with_reducible apply QL.op)); (exact Guard.au); rfl; rfl); (refine Pev.call (v := .bool false) rfl (by exact Args.au) (fun _ w2 hw2 => ?_)))
 ·have hc := STwice_calls x.2.n.1 x.2.n.2 x.1.names w2 l2 hx.cn (hx.ext (hxt w2 hw2)).n
  rw [twiceL_no [] x.1.names hnn] at hc
  exact hc.mono (fun e w3 h => ⟨h.1, hw2.ext h.2⟩)
 apply omv; rfl; rfl
 apply ono; rfl; rfl; rfl; apply Pev.fld; rfl; exact yes; rfl
 apply ono; rfl; rfl; rfl; apply Pev.load_blk; rfl; exact yes; exact .head _; rfl; rfl
 (((first | (with_reducible apply OL.op) | (with_reducible apply QL.op)); (exact Guard.au); rfl; rfl); (refine Pev.call (v := .bool false) rfl (by exact Args.au) (fun _ w2 hw2 => ?_)))
 ·have hc := ITwice_calls x.2.w.1 x.2.w.2 x.1.words w2 l3 hx.cw (hx.ext (hxt w2 hw2)).d
  rw [twiceL_no [] x.1.words hwn] at hc
  exact hc.mono (fun e w3 h => ⟨h.1, hw2.ext h.2⟩)
 apply oop; rfl; apply Pev.pick_or; rfl; exact yes; rfl; exact yes
 apply oas; rfl; rfl
 apply OL.nx
 refine W.cond rfl (fun hb => by cases hb) (fun _ => ?_)
 apply W.sr
 apply ofa; rfl; rfl; rfl
 apply old; rfl; rfl; exact .head _; rfl; rfl
 apply oop; rfl; apply Pev.makeFunc; exact Args.au; exact Args.au
 (((first | (with_reducible apply OL.op) | (with_reducible apply QL.op)); (exact Guard.au); rfl; rfl); (refine Pev.call (v := .bool false) rfl (by exact Args.au) (fun _ w2 hw2 => ?_)))
 ·have hb := hw2.item (i := blk b3 63 [.map (some bm)]) (by exact mau)
  have hl := hw2.lt _ (show blk b3 63 [.map (some bm)] ∈ _ by exact mau) b3 rfl
  have hbx := hw2.item (i := blk b4 77 (ndC x)) (by exact mau)
  have hlx := hw2.lt _ (show blk b4 77 (ndC x) ∈ _ by exact mau) b4 rfl
  have hM2 := hM.ext (hxt w2 hw2)
  have hx2 := hx.ext (hxt w2 hw2)
  have hc := SHasF_calls x.2.n.1 x.2.n.2 x.1.names 65 [] [.pointer (some ⟨b3, 0, none⟩), .pointer (some ⟨b4, 0, none⟩)] (fun _ => false) w2 (by omega) hx2.n rfl (fun s hs w' hx' => by
   have hpos : 0 < x.1.names.length := List.length_pos_of_mem hs
   obtain ⟨an, s0, m1, m2, m3, m4⟩ := SlAt.str (SlAt.extS hx2.n hx') hpos
   obtain ⟨ad, u, k1, k2, k3, k4, k5, k6⟩ := (hM2.ext hx').get (hnames s hs)
   obtain ⟨ad2, u2, j1, j2, j3, j4, j5, j6⟩ := (hM2.ext hx').get (hnames s0 (List.mem_of_getElem? m3))
   rw [k1] at j1
   obtain rfl := Option.some.inj j1
   exact node4_calls s s0 b3 b4 bm _ _ x.2.n.1 x.1.names.length x.2.n.2 w' (by
    rw [cell_heap (w := w2) (hx'.block b3 hl id), blk_cell hb]
    rfl) (Nat.lt_of_lt_of_le hl hx'.size) (by
    rw [cell_heap (w := w2) (hx'.block b4 hlx id), blk_cell hbx]
    rfl) (Nat.lt_of_lt_of_le hlx hx'.size) hpos an m1 m2 m4 (hM2.ext hx').map (hM2.ext hx').lt k3 j3)
  rw [hna] at hc
  exact hc.mono (fun e w3 h => ⟨h.1, hw2.ext h.2⟩)
 apply oas; rfl; rfl
 apply OL.nx
 refine W.cond rfl (fun hb => by cases hb) (fun _ => ?_)
 apply W.skip
 with_reducible apply At.in_normal
 with_reducible apply At.next
 apply W.seq
 apply W.sr
 apply ofa; rfl; rfl; rfl
 apply old; rfl; rfl; exact .head _; rfl; rfl
 apply oop; rfl; apply Pev.len_slice; rfl; exact yes; rfl
 apply omv; rfl; rfl
 apply OL.nx
 apply W.block
 refine W.loop (G := Nat) (fun i => i ≤ x.1.kids.length) (fun i => x.1.kids.length - i)
  (fun i => [(2, true, .int .i64 (k : Int)), (3, true, .pointer (some ⟨b3, 0, none⟩)), (4, true, .pointer (some ⟨b4, 0, none⟩)), (50, true, .slice x.2.k.1 x.1.kids.length x.2.k.2), (51, true, .int .i64 (x.1.kids.length : Int)), (52, true, .int .i64 (i : Int))])
  (fun i => Cls [blk b4 77 [.int .i64 x.1.kind, .int .i64 x.1.row, .slice x.2.p.1 x.1.path.length x.2.p.2, .slice x.2.n.1 x.1.names.length x.2.n.2, .slice x.2.w.1 x.1.words.length x.2.w.2, .slice x.2.k.1 x.1.kids.length x.2.k.2], blk b3 63 [.map (some bm)]] [w]) 0 (Nat.zero_le _) (by exact Sub.au) (fun w' hw' => hw') ?_
 rintro i hi
 simp only at hi ⊢
 apply W.sr
 apply obn; rfl; rfl; rfl; apply Bin.lss
 apply OL.nx
 apply W.seq
 (refine W.cnd (fun hlt => ?_) (fun hlt => ?_)) <;> (try (exfalso; first | omega | exact hlt trivial | contradiction))
 ·obtain ⟨ak, y, hqk, habk, hyi, hycell⟩ := Pt.SlAt.int hx.k (show i < x.1.kids.length by omega)
  obtain ⟨hy1, hy2, hy3⟩ := hkids i y hyi
  have hfin : ∀ b1 : Bool, (b1 = true ↔ (i = x.1.names.length ∧ x.1.kind = 2 ∧ 0 < x.1.names.length ∧ x.1.names.length = (consOf D d).length)) → b1 = decide (y = -1) := fun b1 h => by
   rw [Bool.eq_iff_iff, h, decide_eq_true_eq, hy1]
  rw [hqk]
  by_cases hn0 : x.1.names.length = 0
  ·have hyn : ¬ y = -1 := fun e => by have := hy1.1 e; omega
   simp only [hn0]
   apply W.sk
   apply W.sb
   apply W.sr
   apply omv; rfl; rfl
   apply oop; rfl; apply Pev.idx; rfl; exact yes; rfl; exact yes; rfl; rfl; intro hcond; omega
   apply oop; rfl; apply Pev.load_kept; rfl; exact yes; exact .head _; rfl; intro hcond; assumption; intro hcond; (rw [add_block]; assumption); intro hcond; exact NotOwned.au
   apply oas; rfl; rfl
   apply oas; rfl; rfl
   apply OL.nx
   apply W.seq
   apply W.regd0; decide +kernel; kernel_rfl; decide +kernel; exact fun w hw => hw.drew
   apply qmv; rfl; rfl
   apply qfa; rfl; rfl; rfl
   apply qld; rfl; rfl; exact .head _; rfl; rfl
   apply qop; rfl; apply Pev.len_slice; rfl; exact yes; rfl
   apply qbn; rfl; rfl; rfl; apply Bin.eql
   apply qmv; rfl; rfl
   apply qy; rfl; rfl; rfl; apply Pev.fld; rfl; exact yes; rfl
   apply qy; rfl; rfl; rfl; apply Pev.load_blk; rfl; exact fun h => h; exact .head _; rfl; rfl
   apply qy; rfl; rfl; rfl; apply Pev.bin; rfl; exact fun h => h; rfl; exact yes; intro hcond; apply Bin.eql
   apply qop; rfl; apply Pev.pick_and; rfl; exact yes; rfl; exact fun h => h
   apply qmv; rfl; rfl
   apply qy; rfl; rfl; rfl; apply Pev.fld; rfl; exact yes; rfl
   apply qy; rfl; rfl; rfl; apply Pev.load_blk; rfl; exact fun h => h; exact .head _; rfl; rfl
   apply qy; rfl; rfl; rfl; apply Pev.len_slice; rfl; exact fun h => h; rfl
   apply qy; rfl; rfl; rfl; apply Pev.bin; rfl; exact fun h => h; rfl; exact yes; intro hcond; apply Bin.gtr
   apply qop; rfl; apply Pev.pick_and; rfl; exact yes; rfl; exact fun h => h
   apply qmv; rfl; rfl
   apply qy; rfl; rfl; rfl; apply Pev.fld; rfl; exact yes; rfl
   apply qy; rfl; rfl; rfl; apply Pev.load_blk; rfl; exact fun h => h; exact .head _; rfl; rfl
   apply qy; rfl; rfl; rfl; apply Pev.len_slice; rfl; exact fun h => h; rfl
   apply qy; rfl; rfl; rfl; apply Pev.load_blk; rfl; exact yes; exact .tail _ (.head _); rfl; rfl
   apply qy; rfl; rfl; rfl; apply Pev.fld; rfl; exact yes; rfl
   apply qy; rfl; rfl; rfl; apply Pev.load_blk; rfl; exact fun h => h; exact .head _; rfl; rfl
   apply QL.gateOff; exact Guard.yes rfl rfl; (focus (simp; done)); rfl
   apply QL.gateOff; exact Guard.yes rfl rfl; (focus (simp; done)); rfl
   apply QL.gateOff; exact Guard.yes rfl rfl; (focus (simp; done)); rfl
   apply QL.gateOff; exact Guard.yes rfl rfl; (focus (simp; done)); rfl
   apply QL.gateOff; exact Guard.yes rfl rfl; (focus (simp; done)); rfl
   apply QL.gateOff; exact Guard.yes rfl rfl; (focus (simp; done)); rfl
   apply QL.gateOff; exact Guard.yes rfl rfl; (focus (simp; done)); rfl
   apply QL.gateOff; exact Guard.yes rfl rfl; (focus (simp; done)); rfl
   apply qop; rfl; apply Pev.pick_off; rfl; exact yes; (focus (intro hcond; simp; done)); rfl; exact yes
   apply qas; rfl; rfl
   apply QL.nil
   with_reducible apply At.next
   apply W.sr
   apply omv; rfl; rfl
   apply omv; rfl; rfl
   apply obn; rfl; rfl; rfl; apply Bin.eql
   apply obn; rfl; rfl; rfl; apply Bin.bool_neq; rfl
   apply omv; rfl; rfl
   apply ono; rfl; rfl; rfl; apply Pev.move; rfl; exact yes
   apply ono; rfl; rfl; rfl; apply Pev.bin; rfl; exact fun h => h; rfl; exact yes; intro hcond; apply Bin.lss
   apply oop; rfl; apply Pev.pick_or; rfl; exact yes; rfl; exact fun h => h
   apply omv; rfl; rfl
   apply ono; rfl; rfl; rfl; apply Pev.move; rfl; exact yes
   apply ono; rfl; rfl; rfl; apply Pev.move; rfl; exact yes
   apply ono; rfl; rfl; rfl; apply Pev.bin; rfl; exact fun h => h; rfl; exact fun h => h; intro hcond; apply Bin.geq
   apply oop; rfl; apply Pev.pick_or; rfl; exact yes; rfl; exact fun h => h
   apply OL.nx
   have d1 : decide (y = -1) = false := decide_eq_false hyn
   have d2 : decide (y < -1) = false := decide_eq_false (by omega)
   have d3 : decide ((k : Int) ≤ y) = false := decide_eq_false (by omega)
   rw [d1, d2, d3]
   refine W.cond rfl (fun hb => by cases hb) (fun _ => ?_)
   apply W.skip
   with_reducible apply At.in_normal
   with_reducible apply At.next
   apply W.reg
   apply obn; rfl; rfl; rfl; apply Bin.add_in; omega
   apply omv; rfl; rfl
   apply OL.nil
   exact At.again (i + 1) (by omega) (by omega) (by exact Sub.au) (fun w' hw' => hw')
  ·have hpos : 0 < x.1.names.length := by omega
   obtain ⟨an, s0, m1, m2, m3, m4⟩ := SlAt.str hx.n hpos
   obtain ⟨ad, u, k1, k2, k3, k4, k5, k6⟩ := hM.get (hnames s0 (List.mem_of_getElem? m3))
   have hcl : u.1.cons.length = (consOf D d).length := by rw [k5]
   rw [hcl] at k6
   have k2' : (ad.add (d * 3)).block < w.heap.size := by rw [add_block]; exact k2
   rw [m1]
   have hst : ∀ (H : List Eng.Item) (w2 : World), Cls H [w] w2 → (∀ k, k < w.heap.size → NotOwned H k) → (mapS bm (datV (datP qd) 0 D)).holds w2 := fun H w2 hw2 hno => (mapS bm (datV (datP qd) 0 D)).stab w w2 (fun k hk => hw2.same (.head _) hno k (by rw [show k = bm from hk]; exact hM.lt)) hM.map
   apply W.sk
   apply W.sb
   apply W.sr
   apply omv; rfl; rfl
   apply oop; rfl; apply Pev.idx; rfl; exact yes; rfl; exact yes; rfl; rfl; intro hcond; omega
   apply oop; rfl; apply Pev.load_kept; rfl; exact yes; exact .head _; rfl; intro hcond; assumption; intro hcond; (rw [add_block]; assumption); intro hcond; exact NotOwned.au
   apply oas; rfl; rfl
   apply oas; rfl; rfl
   apply OL.nx
   apply W.seq
   apply W.regd0; decide +kernel; kernel_rfl; decide +kernel; exact fun w hw => hw.drew
   apply qmv; rfl; rfl
   apply qfa; rfl; rfl; rfl
   apply qld; rfl; rfl; exact .head _; rfl; rfl
   apply qop; rfl; apply Pev.len_slice; rfl; exact yes; rfl
   apply qbn; rfl; rfl; rfl; apply Bin.eql
   apply qmv; rfl; rfl
   apply qy; rfl; rfl; rfl; apply Pev.fld; rfl; exact yes; rfl
   apply qy; rfl; rfl; rfl; apply Pev.load_blk; rfl; exact fun h => h; exact .head _; rfl; rfl
   apply qy; rfl; rfl; rfl; apply Pev.bin; rfl; exact fun h => h; rfl; exact yes; intro hcond; apply Bin.eql
   apply qop; rfl; apply Pev.pick_and; rfl; exact yes; rfl; exact fun h => h
   apply qmv; rfl; rfl
   apply qy; rfl; rfl; rfl; apply Pev.fld; rfl; exact yes; rfl
   apply qy; rfl; rfl; rfl; apply Pev.load_blk; rfl; exact fun h => h; exact .head _; rfl; rfl
   apply qy; rfl; rfl; rfl; apply Pev.len_slice; rfl; exact fun h => h; rfl
   apply qy; rfl; rfl; rfl; apply Pev.bin; rfl; exact fun h => h; rfl; exact yes; intro hcond; apply Bin.gtr
   apply qop; rfl; apply Pev.pick_and; rfl; exact yes; rfl; exact fun h => h
   apply qmv; rfl; rfl
   apply qy; rfl; rfl; rfl; apply Pev.fld; rfl; exact yes; rfl
   apply qy; rfl; rfl; rfl; apply Pev.load_blk; rfl; exact fun h => h; exact .head _; rfl; rfl
   apply qy; rfl; rfl; rfl; apply Pev.len_slice; rfl; exact fun h => h; rfl
   apply qy; rfl; rfl; rfl; apply Pev.load_blk; rfl; exact yes; exact .tail _ (.head _); rfl; rfl
   apply qy; rfl; rfl; rfl; apply Pev.fld; rfl; exact yes; rfl
   apply qy; rfl; rfl; rfl; apply Pev.load_blk; rfl; exact fun h => h; exact .head _; rfl; rfl
   apply qy; rfl; rfl; rfl; apply Pev.idx; rfl; exact fun h => h; rfl; exact yes; rfl; rfl; intro hcond; omega
   apply qy; rfl; rfl; rfl; apply Pev.load_kept; rfl; exact fun h => h; exact .head _; rfl; intro hcond; assumption; intro hcond; assumption; intro hcond; exact NotOwned.au
   (((first | (with_reducible apply OL.op) | (with_reducible apply QL.op)); (exact Guard.au); rfl; rfl); (refine Pev.lookup_v (m := datV (datP qd) 0 D) (v := .pointer (some (ad.add (d * 3)))) (zv := .pointer none) rfl (by (first | exact fun _ => rfl | exact fun h => h | (intro h; simp_all; done))) rfl (by (first | exact fun _ => rfl | exact fun h => h | (intro h; simp_all; done))) rfl rfl (fun w2 hw2 => hst _ w2 hw2 (fun k hk => NotOwned.blk (by omega) (NotOwned.blk (by omega) .nil))) (by rw [k3]; rfl)))
   apply qy; rfl; rfl; rfl; apply Pev.nil_ptr; rfl; exact fun h => h
   apply qy; rfl; rfl; rfl; apply Pev.fldA; rfl; exact fun h => h; rfl
   apply qy; rfl; rfl; rfl; apply Pev.load_kept; rfl; exact fun h => h; exact .head _; rfl; intro hcond; apply CellsAt.at_ (by assumption) rfl; intro hcond; assumption; intro hcond; exact NotOwned.au
   apply qy; rfl; rfl; rfl; apply Pev.len_slice; rfl; exact fun h => h; rfl
   apply qy; rfl; rfl; rfl; apply Pev.bin; rfl; exact fun h => h; rfl; exact fun h => h; intro hcond; apply Bin.eql
   apply qop; rfl; apply Pev.pick_and; rfl; exact yes; rfl; exact fun h => h
   apply qas; rfl; rfl
   apply QL.nil
   with_reducible apply At.next
   apply W.sr
   apply omv; rfl; rfl
   apply omv; rfl; rfl
   apply obn; rfl; rfl; rfl; apply Bin.eql
   apply obn; rfl; rfl; rfl; apply Bin.bool_neq; rfl
   apply omv; rfl; rfl
   apply ono; rfl; rfl; rfl; apply Pev.move; rfl; exact yes
   apply ono; rfl; rfl; rfl; apply Pev.bin; rfl; exact fun h => h; rfl; exact yes; intro hcond; apply Bin.lss
   apply oop; rfl; apply Pev.pick_or; rfl; exact yes; rfl; exact fun h => h
   apply omv; rfl; rfl
   apply ono; rfl; rfl; rfl; apply Pev.move; rfl; exact yes
   apply ono; rfl; rfl; rfl; apply Pev.move; rfl; exact yes
   apply ono; rfl; rfl; rfl; apply Pev.bin; rfl; exact fun h => h; rfl; exact fun h => h; intro hcond; apply Bin.geq
   apply oop; rfl; apply Pev.pick_or; rfl; exact yes; rfl; exact fun h => h
   apply OL.nx
   have hb1 := hfin (decide ((i : Int) = (x.1.names.length : Int)) && decide (x.1.kind = 2) && decide (0 < (x.1.names.length : Int)) && decide ((x.1.names.length : Int) = ((consOf D d).length : Int))) (by
    simp only [Bool.and_eq_true, decide_eq_true_eq]
    constructor
    ·rintro ⟨⟨⟨a1, a2⟩, a3⟩, a4⟩
     exact ⟨by omega, a2, by omega, by omega⟩
    ·rintro ⟨a1, a2, a3, a4⟩
     exact ⟨⟨⟨by omega, a2⟩, by omega⟩, by omega⟩)
   have d2 : decide (y < -1) = false := decide_eq_false (by omega)
   have d3 : decide ((k : Int) ≤ y) = false := decide_eq_false (by omega)
   rw [hb1, bne_self_eq_false, d2, d3]
   refine W.cond rfl (fun hb => by cases hb) (fun _ => ?_)
   apply W.skip
   with_reducible apply At.in_normal
   with_reducible apply At.next
   apply W.reg
   apply obn; rfl; rfl; rfl; apply Bin.add_in; omega
   apply omv; rfl; rfl
   apply OL.nil
   exact At.again (i + 1) (by omega) (by omega) (by exact Sub.au) (fun w' hw' => hw')
 ·refine W.xt ?_
  with_reducible apply At.next
  apply W.sr
  apply oas; rfl; rfl
  apply OL.nx
  apply W.ret
  ((with_reducible apply At.fin1); rfl; rfl; intro w' hw')
  exact ⟨rfl, by (exact hw'.fr)⟩
end Go.Proofs.Ytleggdmhihcafaa.pt

/- The walks of match.Check at a valid tree, of match.at and of match.Run. Conditions: none. -/
namespace Go.Pt
open Go.Eng Go.RowKit
def atE : Ty → List Ty → List Int → Option Ty
 | v, _, [] => some v
 | _, vs, k :: p => match vs[k.toNat]? with
  | none => none
  | some x => atE x x.args p
def pickI (x : Pt.Nd) (v : Ty) : Int := if x.kind = 3 then idxP (fun n : Int => decide (n = v.var)) x.words 0 else idxP (fun n : ByteArray => decide (n = v.name)) x.names 0
def pickK (x : Pt.Nd) (v : Ty) : Nat := if pickI x v < 0 then x.kids.length - 1 else (pickI x v).toNat
def runE (t : List Pt.Nd) (vs : List Ty) : Nat → Nat → Int × Int
 | 0, _ => (0, 10)
 | f + 1, k => match t[k]? with
  | none => (0, 10)
  | some x => if x.kind = 0 then (-1, 0) else if x.kind = 1 then (x.row, 0) else match atE anyT vs x.path with
   | none => (0, 4)
   | some v => if (x.kind = 3 ∧ v.kind ≠ 2) ∨ (x.kind ≠ 3 ∧ v.kind ≠ 3) then (0, 10) else if x.kids.getD (pickK x v) 0 < 0 then (0, 10) else runE t vs f (x.kids.getD (pickK x v) 0).toNat
end Go.Pt
namespace Go.Proofs.Ytleggdmhihcafaa.pt
open Go.RowKit Go.Eng Go.Pt
set_option maxRecDepth 100000
theorem mCheck_calls (qd : Option Addr) (cd : Nat) (ds : List (Da × DY)) (q : Option Addr) (cap : Nat) (ts : List NdE) (w : World) (hdl : ds.length ≤ 9223372036854775807) (hd : Arr datR w (low w) ds qd) (hN : (flatN (ds.map Prod.fst)).Nodup) (h : SlAt w w.heap.size q (cat ndC ts)) (hts : ∀ x ∈ ts, NdAt w x) (hv : ValidT (ds.map Prod.fst) (ts.map Prod.fst)) :
  Calls Try.prog 14 [.slice qd ds.length cd, .slice q ts.length cap].toArray w fun e w' => e = .returned (.int .i64 0) ∧ Ext w w' := by
 obtain ⟨hv1, hv2, hv3⟩ := hv
 rw [List.length_map] at hv1 hv2
 refine enter Try.func14 rfl Try.ntmps14 rfl (Cls.start w) ?_
 obtain ⟨D, hD⟩ : ∃ D, ds.map Prod.fst = D := ⟨_, rfl⟩
 rw [hD] at hN hv3
 (simp only [argEnv, Nat.zero_add, Nat.reduceAdd])
 apply W.sr
 apply oas; rfl; rfl
 apply OL.nsr
 apply omv; rfl; rfl
 refine OL.callE (α := Nat × World) (fun y => .tuple #[.map (some y.1), .int .i64 0]) (fun y => MapAt D y.2 y.1 qd ds ∧ Ext w y.2) (fun y => Cls [] [y.2, w]) rfl rfl (by exact Args.au) (fun w2 hw2 => ?_) ?_
 ·have hc := index_calls qd cd ds w2 hdl (hd.at hw2 (.head _) (fun k hk => .nil)) (by rw [hD]; exact hN)
  rw [hD] at hc
  refine hc.mono ?_
  rintro e w3 ⟨bm, k1, k2, k3, k4, k5⟩
  exact ⟨(bm, w3), k1, ⟨⟨hD, hd.ext ((hw2.ext k5).toExt (.head _) (fun k hk => .nil)), k4, k3⟩, (hw2.ext k5).toExt (.head _) (fun k hk => .nil)⟩, (hw2.ext k5).note⟩
 rintro ⟨bm, w1⟩ ⟨hM, hx1⟩
 simp only at hM hx1 ⊢
 have hw1s := hx1.size
 apply omv; rfl; rfl
 apply oex; rfl; rfl; rfl
 apply oex; rfl; rfl; rfl
 apply oas; rfl; rfl
 apply oas; rfl; rfl
 apply OL.nx
 apply W.sb
 apply W.sr
 apply omv; rfl; rfl
 apply obn; rfl; rfl; rfl; apply Bin.neq
 apply oas; rfl; rfl
 apply OL.nx
 refine W.cond rfl (fun hb => by cases hb) (fun _ => ?_)
 apply W.sr
 apply omv; rfl; rfl
 apply oop; rfl; apply Pev.len_slice; rfl; exact yes; rfl
 apply obn; rfl; rfl; rfl; apply Bin.gtr
 apply oas; rfl; rfl
 apply OL.nx
 refine W.cond rfl (fun hb => absurd (of_decide_eq_true hb) (by omega)) (fun _ => ?_)
 apply W.sr
 apply omv; rfl; rfl
 apply oop; rfl; apply Pev.len_slice; rfl; exact yes; rfl
 apply obn; rfl; rfl; rfl; apply Bin.eql
 apply oas; rfl; rfl
 apply OL.nx
 refine W.cond rfl (fun hb => absurd (of_decide_eq_true hb) (by omega)) (fun _ => ?_)
 apply W.skip
 with_reducible apply At.in_normal
 with_reducible apply At.next
 apply W.seq
 apply W.sr
 apply omv; rfl; rfl
 apply oop; rfl; apply Pev.len_slice; rfl; exact yes; rfl
 apply omv; rfl; rfl
 apply OL.nx
 apply W.block
 refine W.loop (G := Nat) (fun i => i ≤ ts.length) (fun i => ts.length - i)
  (fun i => [(5, true, .map (some bm)), (27, true, .slice q ts.length cap), (28, true, .int .i64 (ts.length : Int)), (29, true, .int .i64 (i : Int))])
  (fun i => Cls [] [w1, w]) 0 (Nat.zero_le _) (by exact Sub.au) (fun w' hw' => hw') ?_
 rintro i hi
 simp only at hi ⊢
 apply W.sr
 apply obn; rfl; rfl; rfl; apply Bin.lss
 apply OL.nx
 apply W.seq
 (refine W.cnd (fun hlt => ?_) (fun hlt => ?_)) <;> (try (exfalso; first | omega | exact hlt trivial | contradiction))
 ·obtain ⟨a, x, hqa, hab, hxi, hcell⟩ := h.elem ndC_len (by decide) (show i < ts.length by omega)
  have hxm := List.mem_of_getElem? hxi
  have hok : NodeOk D i x.1 := hv3 i x.1 (by rw [List.getElem?_map, hxi]; rfl)
  have hxa := hts x hxm
  have hnc : ∀ w2, MapAt D w2 bm qd ds → NdAt w2 x → Calls Try.prog 29 [.map (some bm), .agg (ndC x).toArray, .int .i64 (i : Int)].toArray w2 fun e w' => e = .returned (.int .i64 0) ∧ Ext w2 w' := fun w2 h1 h2 => node_calls D bm qd ds x i w2 h1 h2 hok
  simp only [ndC] at hcell hnc
  rw [hqa]
  apply W.sk
  apply W.sb
  apply W.sr
  apply omv; rfl; rfl
  apply oop; rfl; apply Pev.idx; rfl; exact yes; rfl; exact yes; rfl; rfl; intro hcond; omega
  apply oop; rfl; apply Pev.load_keptA; rfl; exact yes; exact .tail _ (.head _); rfl; intro hcond; assumption; rfl; intro hcond; (rw [add_block]; assumption); intro hcond; exact NotOwned.au
  apply OL.alloc; rfl; rfl; exact CellsL.agg; (intro bk hbk; simp only [AllLe, and_true] at hbk)
  apply oas; rfl; rfl
  apply OL.storeB; rfl; rfl; exact CellsL.agg; rfl; rfl; rfl; exact Swap.au; exact Put.au
  apply OL.nsr
  apply omv; rfl; rfl
  apply oop; rfl; apply Pev.load_blkA; rfl; exact yes; exact .head _; rfl; exact Take.au
  apply omv; rfl; rfl
  (((first | (with_reducible apply OL.op) | (with_reducible apply QL.op)); (exact Guard.au); rfl; rfl); (refine Pev.call (v := .int .i64 0) rfl (by exact Args.au) (fun _ w2 hw2 => ?_)))
  ·exact (hnc w2 (hM.ext (hw2.toExt (s := w1) (.head _) (fun k hk => NotOwned.blk (by omega) .nil))) (hxa.ext (hw2.toExt (s := w) (.tail _ (.head _)) (fun k hk => NotOwned.blk (by omega) .nil)))).mono fun e w3 h => ⟨h.1, hw2.ext h.2⟩
  apply oas; rfl; rfl
  apply OL.nsr
  apply omv; rfl; rfl
  apply obn; rfl; rfl; rfl; apply Bin.neq
  apply OL.nx
  refine W.cond rfl (fun hb => by cases hb) (fun _ => ?_)
  apply W.skip
  with_reducible apply At.in_normal
  with_reducible apply At.next
  apply W.reg
  apply obn; rfl; rfl; rfl; apply Bin.add_in; omega
  apply omv; rfl; rfl
  apply OL.nil
  exact At.again (i + 1) (by omega) (by omega) (by exact Sub.au) (fun w' hw' => hw'.thin (by exact Thin.au))
 ·refine W.xt ?_
  with_reducible apply At.next
  apply W.sr
  apply oas; rfl; rfl
  apply OL.nx
  apply W.ret
  ((with_reducible apply At.fin1); rfl; rfl; intro w' hw')
  exact ⟨rfl, hw'.toExt (s := w) (by simp) (fun k hk => .nil)⟩
theorem at_calls (q qp : Option Addr) (cap capp : Nat) (vs : List (Ty × PY)) (path : List Int) (w : World) (hl : vs.length ≤ 9223372036854775807) (hpl : path.length ≤ 1000000) (h : Arr tyR w (low w) vs q) (hp : SlAt w w.heap.size qp (intV path)) (hp0 : ∀ n ∈ path, 0 ≤ n) :
  Calls Try.prog 30 [.slice q vs.length cap, .slice qp path.length capp].toArray w fun e w' => Ext w w' ∧ ∃ y, e = .returned (.tuple #[.agg (tyc ((atE anyT (vs.map Prod.fst) path).getD anyT) y).toArray, .bool (atE anyT (vs.map Prod.fst) path).isSome]) ∧ TyO w (low w) ((atE anyT (vs.map Prod.fst) path).getD anyT) y := by
 refine enter Try.func30 rfl Try.ntmps30 rfl (Cls.start w) ?_
 (simp only [argEnv, Nat.zero_add, Nat.reduceAdd])
 apply W.sr
 apply OL.alloc; rfl; rfl; exact CellsL.agg; (intro bk hbk; simp only [AllLe, and_true] at hbk)
 apply oas; rfl; rfl
 apply OL.nsr
 apply OL.alloc; rfl; rfl; exact CellsL.agg; (intro bk hbk; simp only [AllLe, and_true] at hbk)
 apply OL.nx
 apply W.seq
 apply W.sr
 apply omv; rfl; rfl
 apply oop; rfl; apply Pev.len_slice; rfl; exact yes; rfl
 apply omv; rfl; rfl
 apply OL.nx
 apply W.block
 rename_i b4 hb4
 revert bk
 intro b6 hb6
 obtain ⟨RV, hRV⟩ : ∃ RV, atE anyT (vs.map Prod.fst) path = RV := ⟨_, rfl⟩
 rw [hRV]
 refine W.loop (G := Nat × (Ty × PY) × List (Ty × PY) × Option Addr × Nat) (fun g => g.1 ≤ path.length ∧ atE g.2.1.1 (g.2.2.1.map Prod.fst) (path.drop g.1) = RV ∧ TyO w (low w) g.2.1.1 g.2.1.2 ∧ Arr tyR w (low w) g.2.2.1 g.2.2.2.1 ∧ g.2.2.1.length ≤ 9223372036854775807) (fun g => path.length - g.1)
  (fun g => [(0, true, .slice g.2.2.2.1 g.2.2.1.length g.2.2.2.2), (4, true, .pointer (some ⟨b4, 0, none⟩)), (6, true, .pointer (some ⟨b6, 0, none⟩)), (9, true, .slice qp path.length capp), (10, true, .int .i64 (path.length : Int)), (11, true, .int .i64 (g.1 : Int))])
  (fun g => Cls [blk b6 50 [.int .i64 g.2.1.1.kind, .string g.2.1.1.name, .int .i64 g.2.1.1.var, .slice g.2.1.2.1 g.2.1.1.args.length g.2.1.2.2], blk b4 50 [.int .i64 0, .string ⟨#[]⟩, .int .i64 0, .slice none 0 0]] [w]) (0, (anyT, (none, 0)), vs, q, cap) ⟨Nat.zero_le _, hRV, any_ok w _, h, hl⟩ (by exact Sub.au) (fun w' hw' => hw') ?_
 rintro ⟨i, ⟨v, yv⟩, cs, qc, cc⟩ ⟨hi, hrest, hvok, hcok, hcl⟩
 simp only at hi hrest hvok hcok hcl ⊢
 apply W.sr
 apply obn; rfl; rfl; rfl; apply Bin.lss
 apply OL.nx
 apply W.seq
 (refine W.cnd (fun hlt => ?_) (fun hlt => ?_)) <;> (try (exfalso; first | omega | exact hlt trivial | contradiction))
 ·obtain ⟨an, n, hqn, habn, hni, hncell⟩ := Pt.SlAt.int hp (show i < path.length by omega)
  have hn0 := hp0 n (List.mem_of_getElem? hni)
  obtain ⟨m, rfl⟩ : ∃ m : Nat, n = (m : Int) := ⟨n.toNat, by omega⟩
  have hdr : path.drop i = (m : Int) :: path.drop (i + 1) := by
   have hl : i < path.length := by omega
   rw [List.drop_eq_getElem_cons hl]
   rw [List.getElem?_eq_getElem hl] at hni
   rw [Option.some.inj hni]
  rw [hdr, atE, Int.toNat_natCast, List.getElem?_map] at hrest
  rw [hqn]
  apply W.sk
  apply W.sb
  apply W.sr
  apply oop; rfl; apply Pev.idx; rfl; exact yes; rfl; exact yes; rfl; rfl; intro hcond; omega
  apply oop; rfl; apply Pev.load_kept; rfl; exact yes; exact .head _; rfl; intro hcond; assumption; intro hcond; (rw [add_block]; assumption); intro hcond; exact NotOwned.au
  apply oas; rfl; rfl
  apply OL.nx
  apply W.seq
  apply W.sr
  apply omv; rfl; rfl
  apply omv; rfl; rfl
  apply oop; rfl; apply Pev.len_slice; rfl; exact yes; rfl
  apply obn; rfl; rfl; rfl; apply Bin.geq
  apply OL.nx
  by_cases hm : cs.length ≤ m
  ·rw [List.getElem?_eq_none hm] at hrest
   have hrest : none = RV := hrest
   rw [← hrest]
   refine W.cond rfl (fun _ => ?_) (fun hb => absurd (of_decide_eq_false hb) (by omega))
   apply W.sr
   apply oop; rfl; apply Pev.build; rfl; exact CellsL.agg; rfl; exact Fill.au; rfl
   apply OL.storeB; rfl; rfl; exact CellsL.agg; rfl; rfl; rfl; exact Swap.au; exact Put.au
   apply oas; rfl; rfl
   apply OL.nx
   refine W.rt ?_
   refine At.finC1 rfl rfl rfl (.tail _ (.head _)) rfl rfl (fun w' hw' => ⟨hw'.toExt (.head _) (fun k hk => NotOwned.blk (by omega) (NotOwned.blk (by omega) .nil)), (none, 0), rfl, any_ok w _⟩)
  ·obtain ⟨ac, u, hqc, habc, hu, hucell, huok⟩ := hcok.get (show m < cs.length by omega)
   have habc : ac.block < w.heap.size := habc
   have hucell : CellsAt w (ac.add (m * 4)) [.int .i64 u.1.kind, .string u.1.name, .int .i64 u.1.var, .slice u.2.1 u.1.args.length u.2.2] := hucell
   obtain ⟨pz, hpz, hpza, hpzl, _⟩ := pat_kids huok
   have hpzl2 : pz.length = u.1.args.length := by rw [← hpz, List.length_map]
   rw [hu] at hrest
   have hrest : atE u.1 u.1.args (path.drop (i + 1)) = RV := hrest
   rw [hqc]
   refine W.cond rfl (fun hb => absurd (of_decide_eq_true hb) (by omega)) (fun _ => ?_)
   apply W.sk
   apply W.sr
   apply omv; rfl; rfl
   apply omv; rfl; rfl
   apply oop; rfl; apply Pev.idx; rfl; exact yes; rfl; exact yes; rfl; rfl; intro hcond; omega
   apply oop; rfl; apply Pev.load_keptA; rfl; exact yes; exact .head _; rfl; intro hcond; assumption; rfl; intro hcond; (rw [add_block]; assumption); intro hcond; exact NotOwned.au
   apply OL.storeB; rfl; rfl; exact CellsL.agg; rfl; rfl; rfl; exact Swap.au; exact Put.au
   apply OL.nx
   apply W.reg
   apply ofa; rfl; rfl; rfl
   apply old; rfl; rfl; exact .head _; rfl; rfl
   apply oas; rfl; rfl
   apply OL.nil
   with_reducible apply At.in_normal
   with_reducible apply At.next
   apply W.reg
   apply obn; rfl; rfl; rfl; apply Bin.add_in; omega
   apply omv; rfl; rfl
   apply OL.nil
   exact At.again (i + 1, u, pz, u.2.1, u.2.2) ⟨by simp only; omega, by simp only [hpz]; exact hrest, huok, hpza, by simp only; omega⟩ (by simp only; omega) (by simp only [hpzl2]; exact Sub.au) (fun w' hw' => hw')
 ·rw [List.drop_eq_nil_of_le (by omega), atE] at hrest
  rw [← hrest]
  refine W.xt ?_
  with_reducible apply At.next
  apply W.sr
  apply oop; rfl; apply Pev.load_blkA; rfl; exact yes; exact .head _; rfl; exact Take.au
  apply OL.storeB; rfl; rfl; exact CellsL.agg; rfl; rfl; rfl; exact Swap.au; exact Put.au
  apply oas; rfl; rfl
  apply OL.nx
  apply W.ret
  refine At.finC1 rfl rfl rfl (.tail _ (.head _)) rfl rfl (fun w' hw' => ⟨hw'.toExt (.head _) (fun k hk => NotOwned.blk (by omega) (NotOwned.blk (by omega) .nil)), yv, rfl, hvok⟩)
end Go.Proofs.Ytleggdmhihcafaa.pt
