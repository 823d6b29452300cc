/- Texts of the proof of SsaRuns, part 3: rules of a calculus for walking, plain laws, and walks of the functions that the law reaches. No condition. -/
import Derived.Sort.Grow
import Derived.Test.YtehelljmaiophaaProg
import Derived.Shelf.Lays
import Derived.Shelf.Sort.Plain
import Derived.Shelf.Slices.In.SortNone
import Derived.Shelf.Slices.Reverse
import Derived.Test.YtehelljmaiophaaSsaRuns2
set_option linter.unusedVariables false
set_option linter.unusedSimpArgs false
/- The walk of the reference's FuncErr. Conditions: none. -/
namespace Go.Eng
open Go.RowKit Go.Ss
theorem Cls.pileS {H : List Item} {S : List World} {w w' : World} {q : Option Addr} {c : Nat} {l : List Int} (h : Cls H S w) (he : Ext w w') (hI : IntsO w' (fresh w w') l q) : Cls (pile w.heap.size (fun k => k < w'.heap.size) [⟨q, c, ints l⟩] :: H) S w' :=
 h.add he _ (fun s hs hl => by
  obtain rfl := List.mem_singleton.1 hs
  simp only [ints_length] at hl
  obtain ⟨a, h1, h2, h3⟩ := hI hl
  exact ⟨a, h1, h2, h3⟩) (fun k hk => hk)
end Go.Eng
namespace Go.Ss
open Go.Eng Go.RowKit
theorem params_lim {bs : List Bk} (h : shapeE bs = 0) {k : Nat} {b : Bk} (hb : bs[k]? = some b) : b.params.length ≤ 4096 := by
 obtain ⟨h1, _, _⟩ := block_zero (shape_block h hb)
 have hz : ∀ (j : Nat) v, b.params[j]? = some v → defE v (defsF (bs.take k) ++ b.params.take j) = 0 := fun j v hv => by
  have h4 := firstR_zero.1 h1 j (List.getElem?_eq_some_iff.1 hv).1
  rwa [paramE_at hv] at h4
 refine Lim4.len ⟨?_, fun v hv => ?_⟩
 ·have := nodup_more (seen := []) (ps := b.params) (fun j v hv hm => (def_zero (hz j v hv)).2.2 (List.mem_append_right _ (by simpa using hm))) List.nodup_nil
  simpa using this
 ·obtain ⟨j, hj⟩ := List.getElem?_of_mem hv
  have := def_zero (hz j v hj)
  exact ⟨this.1, this.2.1⟩
theorem flat_bound {n : Nat} : ∀ {l : List Ed}, (∀ e ∈ l, e.args.length ≤ n) → (l.flatMap Ed.args).length ≤ l.length * n
 | [], _ => by simp
 | e :: l, h => by
  have h1 := h e (.head _)
  have h2 := flat_bound fun x hx => h x (.tail _ hx)
  simp only [List.flatMap_cons, List.length_append, List.length_cons, Nat.succ_mul]
  omega
theorem shape_to {t : Tm} (h : shapeT t = true) (hc : t.cases.length ≤ 256) : t.to_.length ≤ 257 := by
 unfold shapeT at h
 split at h
 ·simp [-List.length_eq_zero_iff] at h; omega
 ·split at h
  ·simp [-List.length_eq_zero_iff] at h; omega
  ·split at h
   ·simp [-List.length_eq_zero_iff] at h; omega
   ·split at h
    ·simp [-List.length_eq_zero_iff] at h; omega
    ·split at h
     ·simp [-List.length_eq_zero_iff] at h; omega
     ·cases h
theorem oper_len {bs : List Bk} (h : shapeE bs = 0) {k : Nat} {b : Bk} (hb : bs[k]? = some b) : (operT b.term).length ≤ 1000000000 := by
 obtain ⟨h1, h2, _, _, h3⟩ := term_zero (block_zero (shape_block h hb)).2.2
 have h4 := shape_to h1 h2
 have h5 : (b.term.to_.flatMap Ed.args).length ≤ b.term.to_.length * 4096 := flat_bound fun e he => by
  obtain ⟨h6, h7, h8⟩ := edge_zero (h3 e he)
  have h9 : bs[e.block.toNat]? = some (bs.getD e.block.toNat noB) := by
   rw [List.getD_eq_getElem?_getD, List.getElem?_eq_getElem (by omega)]; rfl
  rw [h8]
  exact params_lim h h9
 unfold operT
 rw [List.length_append]
 have : (if b.term.kind = 0 ∨ b.term.kind = 2 ∨ b.term.kind = 3 then [b.term.arg] else []).length ≤ 1 := by split <;> simp
 omega
end Go.Ss
namespace Go.Proofs.Ytehelljmaiophaa.ss
set_option maxRecDepth 100000
open Go.Eng Go.RowKit Go.Ss
theorem FuncErr_calls (fn : Go.Ss.Fn) (y : FnY) (w : World) (hfn : FnOk w (low w) fn y) :
  Calls Try.prog 14 [.agg (fnC fn y).toArray].toArray w fun e w' => e = .returned (.int .i64 (funcE fn)) ∧ Ext w w' := by
 obtain ⟨es, hes, he⟩ := hfn.b
 obtain ⟨nm, bs⟩ := fn
 obtain ⟨q, cap⟩ := y
 have hbl := hfn.bl
 simp only at hes he hbl
 have hbl2 : bs.length = es.length := by rw [← hes, List.length_map]
 refine enter Try.func14 rfl Try.ntmps14 rfl (Cls.start w) (zen ?_)
 simp only [fnC]
 rw [hbl2]
 apply W.sr
 apply OL.box; rfl; rfl; exact CellsL.agg; (intro bk hbk; simp only [AllLe, and_true] at hbk)
 refine zgs ?_
 revert bk
 intro bF hbF
 have hbF1 : w.heap.size ≤ bF := by first | exact hbF | exact hbF.1
 refine W.loop (G := Nat × Int) (fun z => z.1 ≤ es.length ∧ (es.length ≤ 128 → z.2 = (insAll (bs.take z.1) : Int)) ∧ insAll (bs.take z.1) ≤ z.1 * 140737488355328) (fun z => es.length - z.1)
  (fun z => [(1, true, .pointer (some ⟨bF, 0, none⟩)), (3, true, .int .i64 z.2), (17, true, .slice q es.length cap), (18, true, .int .i64 (es.length : Int)), (19, true, .int .i64 (z.1 : Int))])
  (fun _ => Cls [blk bF 24 [.int .i64 nm, .slice q es.length cap]] [w]) (0, 0) ⟨by simp, fun _ => by simp [insAll], by simp [insAll]⟩ (by exact Sub.au) (fun w' hw' => hw') ?_
 rintro ⟨k, z⟩ ⟨hk, hz, hz2⟩
 simp only at hk hz hz2 ⊢
 refine zgs ?_
 refine W.cnd ?_ ?_ <;> intro hlt <;> try exact zwx hlt
 ·have hkl : k < es.length := by omega
  obtain ⟨a, p, hqa, hab, hp, hcell, hok⟩ := he.get hkl
  have hab : a.block < w.heap.size := hab
  have hcell : CellsAt w (a.add (k * 7)) [.slice p.2.p.1 p.1.params.length p.2.p.2, .slice p.2.i.1 p.1.ins.length p.2.i.2, .int .i64 p.1.term.kind, .int .i64 p.1.term.arg, .int .i64 p.1.term.n, .slice p.2.t.c.1 p.1.term.cases.length p.2.t.c.2, .slice p.2.t.t.1 p.1.term.to_.length p.2.t.t.2] := hcell
  have hbsk : bs[k]? = some p.1 := by rw [← hes, List.getElem?_map, hp]; rfl
  have hil := hok.il
  have hins : insAll (bs.take (k + 1)) = insAll (bs.take k) + p.1.ins.length := by
   unfold insAll
   rw [List.take_add_one, hbsk]
   simp
  rw [hqa]
  refine zgs ?_
  apply OL.alloc; rfl; rfl; exact CellsL.agg; (intro bk hbk; simp only [AllLe, and_true] at hbk)
  refine zgs ?_
  have hle : es.length ≤ 128 → IntKind.i64.wrap (z + (p.1.ins.length : Int)) = ((insAll (bs.take (k + 1)) : Nat) : Int) := fun h => by
   have h1 := hz h
   rw [IntWalk.i64_in _ (by rw [h1]; omega), h1, hins]
   omega
  refine At.again (k + 1, IntKind.i64.wrap (z + (p.1.ins.length : Int))) ⟨by simp only; omega, hle, by rw [hins]; simp only; omega⟩ (by simp only; omega) (by exact Sub.au) (fun w' hw' => hw'.thin (by exact Thin.au))
 obtain rfl : k = es.length := by omega
 rw [← hbl2, List.take_length] at hz hz2
 refine zgs ?_
 refine W.cnd ?_ ?_ <;> intro h1 <;> try exact zwx h1
 ·have hF : funcE ⟨nm, bs⟩ = 3 := by
   unfold funcE
   rw [if_pos (by simp only; omega)]
  refine zgs ?_
  (refine zfn ?_; intro w' hw')
  rw [hF]
  exact ⟨rfl, by (exact hw'.fr)⟩
 obtain ⟨a, p, hqa, hab, hp, hcell, hok⟩ := he.get (show 0 < es.length by omega)
 have hab : a.block < w.heap.size := hab
 have hcell : CellsAt w (a.add (0 * 7)) [.slice p.2.p.1 p.1.params.length p.2.p.2, .slice p.2.i.1 p.1.ins.length p.2.i.2, .int .i64 p.1.term.kind, .int .i64 p.1.term.arg, .int .i64 p.1.term.n, .slice p.2.t.c.1 p.1.term.cases.length p.2.t.c.2, .slice p.2.t.t.1 p.1.term.to_.length p.2.t.t.2] := hcell
 have hg0 : bs.getD 0 noB = p.1 := by rw [List.getD_eq_getElem?_getD, ← hes, List.getElem?_map, hp]; rfl
 have hqe : q = some a := hqa
 rw [hqa]
 refine zgs ?_
 refine W.cond rfl (fun h2 => ?_) (fun h2 => ?_)
 ·have hF : funcE ⟨nm, bs⟩ = 2 := by
   unfold funcE
   rw [if_neg (by simp only; omega), if_pos ?_]
   simp only
   rw [hg0]
   simp at h2
   by_cases h3 : 128 < es.length
   ·exact .inl (by omega)
   ·have := hz (by omega)
    right
    rcases h2 with (h2 | h2) | h2
    ·omega
    ·left; omega
    ·right; omega
  refine zgs ?_
  (refine zfn ?_; intro w' hw')
  rw [hF]
  exact ⟨rfl, by (exact hw'.fr)⟩
 have h3 : es.length ≤ 128 := by simp at h2; omega
 have h2' : ¬ (128 < bs.length ∨ 1024 < insAll bs ∨ 6 < (bs.getD 0 noB).params.length) := by
  have := hz (by omega)
  rw [hg0]
  simp at h2
  omega
 refine zgs ?_
 (((first | apply OL.op | apply QL.op); exact Guard.au; rfl; rfl); (exact Pev.call (v := .bool (decide (-1 ≤ nm) && decide (nm ≤ 1048575))) rfl (by exact Args.au) (fun _ w2 hw2 => (Within_calls nm (-1) 1048575 w2).mono (fun e w3 h => ⟨h.1, hw2.ext h.2⟩))))
 refine zgs ?_
 refine W.cond rfl (fun h4 => ?_) (fun h4 => ?_)
 ·have hF : funcE ⟨nm, bs⟩ = 4 := by
   unfold funcE
   rw [if_neg (by simp only; omega), if_neg h2', if_pos (by simp at h4; simp only; omega)]
  refine zgs ?_
  (refine zfn ?_; intro w' hw')
  rw [hF]
  exact ⟨rfl, by (exact hw'.fr)⟩
 have hF : (¬ shapeE bs = 0 → funcE ⟨nm, bs⟩ = shapeE bs) ∧ (shapeE bs = 0 → ∀ r : Int, (r = 0 ∨ r = 6) → (r = 0 ↔ ∀ (k : Nat) b, bs[k]? = some b → UsesB bs k b) → r = funcE ⟨nm, bs⟩) := by
  constructor
  ·intro h5
   unfold funcE
   rw [if_neg (by simp only; omega), if_neg h2', if_neg (by simp at h4; simp only; omega), if_pos h5]
  ·intro h5 r hr hi
   unfold funcE
   rw [if_neg (by simp only; omega), if_neg h2', if_neg (by simp at h4; simp only; omega), if_neg (fun h => h h5)]
   split
   ·rename_i h6; exact hi.2 h6
   ·rename_i h6
    rcases hr with hr | hr
    ·exact absurd (hi.1 hr) h6
    ·exact hr
 rw [hqe] at he
 have hbad : ∀ (k : Nat) b, bs[k]? = some b → ¬ UsesB bs k b → shapeE bs = 0 → (6 : Int) = funcE ⟨nm, bs⟩ := fun k b hb hn h5 => hF.2 h5 6 (.inr rfl) ⟨fun h => by omega, fun h => absurd (h k b hb) hn⟩
 refine zgs ?_
 (((first | apply OL.op | apply QL.op); exact Guard.au; rfl; rfl); (exact Pev.call (v := .int .i64 (shapeE bs)) rfl (by exact Args.au) (fun _ w2 hw2 => (shapeErr_calls es (some a) cap nm w2 (he.at hw2 (by exact mau) (fun k hk => by exact NotOwned.au)) (by omega)).mono (fun e w3 h => ⟨by rw [h.1, hes], hw2.ext h.2⟩))))
 refine zgs ?_
 refine W.cnd ?_ ?_ <;> intro hne <;> try exact zwx hne
 ·rw [hF.1 hne]
  refine zgs ?_
  (refine zfn ?_; intro w' hw')
  exact ⟨rfl, by (exact hw'.fr)⟩
 have hs0 : shapeE bs = 0 := by simpa using hne
 refine zgs ?_
 refine OL.callE (α := Nat × List Bool) (fun z => .slice (some ⟨z.1, 0, none⟩) es.length es.length) (fun z => w.heap.size ≤ z.1 ∧ z.2.length = es.length ∧ ∀ k : Nat, z.2[k]? = some true ↔ Rc (graphB bs) (-1) k) (fun z => Cls (blk z.1 4 (bls z.2) :: [blk bF 24 [.int .i64 nm, .slice (some a) es.length cap]]) [w]) rfl rfl (by exact Args.au) (fun w2 hw2 => (Reach_calls es (some a) cap nm (-1) w2 (he.at hw2 (by exact mau) (fun k hk => by exact NotOwned.au)) (by omega)).mono fun e w3 ⟨bR, B, h1, h2, h3, h4, h5, h6⟩ => ⟨(bR, B), h1, ⟨Nat.le_trans (hw2.kp w (by exact mau)).size h5, h2, by rw [hes] at h3; exact h3⟩, hw2.add h4 _ h6 (fun k hk => by rw [show k = bR from hk]; exact ⟨h5, blk_lt h6⟩)⟩) ?_
 rintro ⟨bR, B⟩ ⟨hbR, hBl, hB⟩
 simp only at hbR hBl hB ⊢
 have hU : ∀ (v : Int) (k at_ : Nat) (hk : k < es.length) (H : List Eng.Item) (S : List World) (w2 : World) (hw2 : Cls H S w2) (hwS : w ∈ S) (hno : ∀ k, k < w.heap.size → NotOwned H k) (hmem : blk bR 4 (bls B) ∈ H), Calls Try.prog 58 [.agg #[.int .i64 nm, .slice (some a) es.length cap], .int .i64 v, .int .i64 (k : Int), .int .i64 (at_ : Int), .slice (some ⟨bR, 0, none⟩) es.length es.length].toArray w2 fun e w' => ∃ r : Bool, e = .returned (.bool r) ∧ (r = true ↔ Fine bs v k at_) ∧ Cls H S w' := fun v k at_ hk H S w2 hw2 hwS hno hmem => (usable_calls es (some a) cap nm v k at_ bR B w2 (he.at hw2 hwS hno) (by omega) hk (by rw [hes]; exact hs0) hBl (by rw [hes]; exact hB k) (hw2.item hmem)).mono fun e w3 ⟨r, h1, h2, h3⟩ => ⟨r, h1, by rw [hes] at h2; exact h2, hw2.ext h3⟩
 refine zgs ?_
 refine W.loop (G := Nat) (fun k => k ≤ es.length ∧ ∀ (k' : Nat) b, k' < k → bs[k']? = some b → UsesB bs k' b) (fun k => es.length - k)
  (fun k => [(1, true, .pointer (some ⟨bF, 0, none⟩)), (7, true, .slice (some ⟨bR, 0, none⟩) es.length es.length), (62, true, .slice (some a) es.length cap), (63, true, .int .i64 (es.length : Int)), (64, true, .int .i64 (k : Int))]) (fun k => Cls [blk bR 4 (bls B), blk bF 24 [.int .i64 nm, .slice (some a) es.length cap]] [w]) 0 ⟨by omega, fun k' b h => by omega⟩ (by exact Sub.au) (fun w' hw' => hw') ?_
 rintro k ⟨hk, hk0⟩
 refine zgs ?_
 refine W.cnd ?_ ?_ <;> intro hltk <;> try exact zwx hltk
 ·have hkl : k < es.length := by omega
  obtain ⟨a2, p, hqa2, hab2, hp, hcell2, hok⟩ := he.get hkl
  obtain rfl := Option.some.inj hqa2
  have hab2 : a.block < w.heap.size := hab2
  have hcell2 : CellsAt w (a.add (k * 7)) [.slice p.2.p.1 p.1.params.length p.2.p.2, .slice p.2.i.1 p.1.ins.length p.2.i.2, .int .i64 p.1.term.kind, .int .i64 p.1.term.arg, .int .i64 p.1.term.n, .slice p.2.t.c.1 p.1.term.cases.length p.2.t.c.2, .slice p.2.t.t.1 p.1.term.to_.length p.2.t.t.2] := hcell2
  have hbsk : bs[k]? = some p.1 := by rw [← hes, List.getElem?_map, hp]; rfl
  have hil := hok.il
  obtain ⟨pi, hpi, hiarr⟩ := hok.i
  have hpil : p.1.ins.length = pi.length := by rw [← hpi, List.length_map]
  have hop := oper_len hs0 hbsk
  refine zgs ?_
  apply OL.alloc; rfl; rfl; exact CellsL.agg; (intro bk hbk; simp only [AllLe, and_true] at hbk)
  refine zgs ?_
  revert bk
  intro b9 hb9
  have hb91 : w.heap.size ≤ b9 := by first | exact hb9 | exact hb9.1
  refine W.loop (G := Nat) (fun n => n ≤ p.1.ins.length ∧ ∀ (n' : Nat) i, n' < n → p.1.ins[n']? = some i → ∀ v ∈ i.args, Fine bs v k n') (fun n => p.1.ins.length - n)
   (fun n => [(1, true, .pointer (some ⟨bF, 0, none⟩)), (7, true, .slice (some ⟨bR, 0, none⟩) es.length es.length), (8, true, .int .i64 (k : Int)), (9, true, .pointer (some ⟨b9, 0, none⟩)), (62, true, .slice (some a) es.length cap), (63, true, .int .i64 (es.length : Int)), (64, true, .int .i64 (k : Int)), (70, true, .slice p.2.i.1 p.1.ins.length p.2.i.2), (71, true, .int .i64 (p.1.ins.length : Int)), (72, true, .int .i64 (n : Int))]) (fun n => Cls [blk b9 41 [.slice p.2.p.1 p.1.params.length p.2.p.2, .slice p.2.i.1 p.1.ins.length p.2.i.2, .int .i64 p.1.term.kind, .int .i64 p.1.term.arg, .int .i64 p.1.term.n, .slice p.2.t.c.1 p.1.term.cases.length p.2.t.c.2, .slice p.2.t.t.1 p.1.term.to_.length p.2.t.t.2], blk bR 4 (bls B), blk bF 24 [.int .i64 nm, .slice (some a) es.length cap]] [w]) 0 ⟨by omega, fun n' i h => by omega⟩ (by exact Sub.au) (fun w' hw' => hw') ?_
  rintro n ⟨hn, hn0⟩
  refine zgs ?_
  refine W.cnd ?_ ?_ <;> intro hltn <;> try exact zwx hltn
  ·have hnl : n < p.1.ins.length := by omega
   obtain ⟨ai, u, hqi, haib, hu, hcu, hoku⟩ := hiarr.get (show n < pi.length by omega)
   have haib : ai.block < w.heap.size := haib
   have hcu : CellsAt w (ai.add (n * 4)) [.int .i64 u.1.to_, .int .i64 u.1.op, .int .i64 u.1.n, .slice u.2.1 u.1.args.length u.2.2] := hcu
   have hui : p.1.ins[n]? = some u.1 := by rw [← hpi, List.getElem?_map, hu]; rfl
   have hual := hoku.al
   rw [hqi]
   refine zgs ?_
   apply OL.alloc; rfl; rfl; exact CellsL.agg; (intro bk hbk; simp only [AllLe, and_true] at hbk)
   refine zgs ?_
   revert bk
   intro b11 hb11
   have hb111 : w.heap.size ≤ b11 := by first | exact hb11 | exact hb11.1
   refine W.loop (G := Nat) (fun i => i ≤ u.1.args.length ∧ ∀ (m : Nat) v, m < i → u.1.args[m]? = some v → Fine bs v k n) (fun i => u.1.args.length - i)
    (fun i => [(1, true, .pointer (some ⟨bF, 0, none⟩)), (7, true, .slice (some ⟨bR, 0, none⟩) es.length es.length), (8, true, .int .i64 (k : Int)), (9, true, .pointer (some ⟨b9, 0, none⟩)), (10, true, .int .i64 (n : Int)), (62, true, .slice (some a) es.length cap), (63, true, .int .i64 (es.length : Int)), (64, true, .int .i64 (k : Int)), (70, true, .slice (some ai) p.1.ins.length p.2.i.2), (71, true, .int .i64 (p.1.ins.length : Int)), (72, true, .int .i64 (n : Int)), (78, true, .slice u.2.1 u.1.args.length u.2.2), (79, true, .int .i64 (u.1.args.length : Int)), (80, true, .int .i64 (i : Int))]) (fun i => Cls [blk b9 41 [.slice p.2.p.1 p.1.params.length p.2.p.2, .slice (some ai) p.1.ins.length p.2.i.2, .int .i64 p.1.term.kind, .int .i64 p.1.term.arg, .int .i64 p.1.term.n, .slice p.2.t.c.1 p.1.term.cases.length p.2.t.c.2, .slice p.2.t.t.1 p.1.term.to_.length p.2.t.t.2], blk bR 4 (bls B), blk bF 24 [.int .i64 nm, .slice (some a) es.length cap]] [w]) 0 ⟨by omega, fun m v h => by omega⟩ (by exact Sub.au) (fun w' hw' => hw'.thin (.any (fun k hk => by rw [show k = b11 from hk]; exact ⟨hb111, trivial⟩) Thin.same)) ?_
   rintro i ⟨hi, hi0⟩
   refine zgs ?_
   refine W.cnd ?_ ?_ <;> intro hlti <;> try exact zwx hlti
   ·have hil2 : i < u.1.args.length := by omega
    obtain ⟨av, v, hqv, habv, hv, hcv⟩ := hoku.a.get hil2
    have habv : av.block < w.heap.size := habv
    rw [hqv]
    refine zgs ?_
    refine OL.callE (α := Bool) (fun r => .bool r) (fun r => r = true ↔ Fine bs v k n) (fun _ => Cls [blk b9 41 [.slice p.2.p.1 p.1.params.length p.2.p.2, .slice (some ai) p.1.ins.length p.2.i.2, .int .i64 p.1.term.kind, .int .i64 p.1.term.arg, .int .i64 p.1.term.n, .slice p.2.t.c.1 p.1.term.cases.length p.2.t.c.2, .slice p.2.t.t.1 p.1.term.to_.length p.2.t.t.2], blk bR 4 (bls B), blk bF 24 [.int .i64 nm, .slice (some a) es.length cap]] [w]) rfl rfl (by exact Args.au) (fun w2 hw2 => hU v k n hkl _ _ w2 hw2 (.head _) (fun k hk => by exact NotOwned.au) (by exact mau)) ?_
    intro r hr
    refine zgs ?_
    refine W.cond rfl (fun h3 => ?_) (fun h3 => ?_)
    ·have hnf : ¬ Fine bs v k n := fun h => by rw [hr.2 h] at h3; cases h3
     have h6 := hbad k p.1 hbsk (fun h => hnf (h.1 n u.1 hui v (List.mem_of_getElem? hv))) hs0
     refine zgs ?_
     (refine zfn ?_; intro w' hw')
     exact ⟨by rw [h6], (hw'.thin (.any (fun k hk => by rw [show k = b9 from hk]; exact ⟨hb91, trivial⟩) (.any (fun k hk => by rw [show k = bR from hk]; exact ⟨hbR, trivial⟩) (.any (fun k hk => by rw [show k = bF from hk]; exact ⟨hbF1, trivial⟩) Thin.same)))).fr (by exact mau) (fun k hk => NotOwned.nil)⟩
    ·have hfv : Fine bs v k n := hr.1 (by simpa using h3)
     refine zgs ?_
     refine At.again (i + 1) ⟨by omega, fun m v' hm hv' => ?_⟩ (by omega) (by exact Sub.au) (fun w' hw' => hw')
     by_cases em : m = i
     ·subst em
      rw [hv] at hv'
      obtain rfl := Option.some.inj hv'
      exact hfv
     ·exact hi0 m v' (by omega) hv'
   ·obtain rfl : i = u.1.args.length := by omega
    refine zgs ?_
    refine At.again (n + 1) ⟨by omega, fun m i' hm hi' v hv => ?_⟩ (by omega) (by exact Sub.au) (fun w' hw' => hw')
    by_cases em : m = n
    ·subst em
     rw [hui] at hi'
     obtain rfl := Option.some.inj hi'
     obtain ⟨m2, hm2⟩ := List.getElem?_of_mem hv
     exact hi0 m2 v (List.getElem?_eq_some_iff.1 hm2).1 hm2
    ·exact hn0 m i' (by omega) hi' v hv
  ·obtain rfl : n = p.1.ins.length := by omega
   refine zgs ?_
   refine OL.callE (α := Option Addr × Nat × Nat × Nat) (fun z => .slice z.1 (operT p.1.term).length z.2.1) (fun z => w.heap.size ≤ z.2.2.1 ∧ (0 < (operT p.1.term).length → ∃ qa, z.1 = some qa)) (fun z => Cls [pile z.2.2.1 (fun k => k < z.2.2.2) [⟨z.1, z.2.1, ints (operT p.1.term)⟩], blk b9 41 [.slice p.2.p.1 p.1.params.length p.2.p.2, .slice p.2.i.1 p.1.ins.length p.2.i.2, .int .i64 p.1.term.kind, .int .i64 p.1.term.arg, .int .i64 p.1.term.n, .slice p.2.t.c.1 p.1.term.cases.length p.2.t.c.2, .slice p.2.t.t.1 p.1.term.to_.length p.2.t.t.2], blk bR 4 (bls B), blk bF 24 [.int .i64 nm, .slice (some a) es.length cap]] [w]) rfl rfl (by exact Args.au) (fun w2 hw2 => (Operands_calls p.1.term p.2.t w2 (TmOk.at hok.t hw2 (by exact mau) (fun k hk => by exact NotOwned.au)) hop).mono fun e w3 ⟨qo, co, h1, h2, h3⟩ => ⟨(qo, co, w2.heap.size, w3.heap.size), h1, ⟨(hw2.kp w (by exact mau)).size, fun h => (h3 h).imp fun qa hq => hq.1⟩, hw2.pileS h2 h3⟩) ?_
   rintro ⟨qo, co, pB, pT⟩ ⟨hpB, hqo⟩
   simp only at hpB hqo ⊢
   refine zgs ?_
   refine W.loop (G := Nat) (fun i => i ≤ (operT p.1.term).length ∧ ∀ (m : Nat) v, m < i → (operT p.1.term)[m]? = some v → Fine bs v k p.1.ins.length) (fun i => (operT p.1.term).length - i)
    (fun i => [(1, true, .pointer (some ⟨bF, 0, none⟩)), (7, true, .slice (some ⟨bR, 0, none⟩) es.length es.length), (8, true, .int .i64 (k : Int)), (9, true, .pointer (some ⟨b9, 0, none⟩)), (62, true, .slice (some a) es.length cap), (63, true, .int .i64 (es.length : Int)), (64, true, .int .i64 (k : Int)), (95, true, .slice qo (operT p.1.term).length co), (96, true, .int .i64 ((operT p.1.term).length : Int)), (97, true, .int .i64 (i : Int))]) (fun i => Cls [pile pB (fun k => k < pT) [⟨qo, co, ints (operT p.1.term)⟩], blk b9 41 [.slice p.2.p.1 p.1.params.length p.2.p.2, .slice p.2.i.1 p.1.ins.length p.2.i.2, .int .i64 p.1.term.kind, .int .i64 p.1.term.arg, .int .i64 p.1.term.n, .slice p.2.t.c.1 p.1.term.cases.length p.2.t.c.2, .slice p.2.t.t.1 p.1.term.to_.length p.2.t.t.2], blk bR 4 (bls B), blk bF 24 [.int .i64 nm, .slice (some a) es.length cap]] [w]) 0 ⟨by omega, fun m v h => by omega⟩ (by exact Sub.au) (fun w' hw' => hw') ?_
   rintro i ⟨hi, hi0⟩
   refine zgs ?_
   refine W.cnd ?_ ?_ <;> intro hlto <;> try exact zwx hlto
   ·have hil2 : i < (operT p.1.term).length := by omega
    obtain ⟨qa, hqa3⟩ := hqo (by omega)
    obtain ⟨v, hv⟩ : ∃ v, (operT p.1.term)[i]? = some v := ⟨_, List.getElem?_eq_getElem hil2⟩
    have hvm := List.mem_of_getElem? hv
    rw [hqa3]
    refine zgs ?_
    (((first | (with_reducible apply OL.op) | (with_reducible apply QL.op)); (exact Guard.au); rfl; rfl); (apply Pev.load_pile (s := ⟨some qa, co, ints (operT p.1.term)⟩)); rfl; ((first | exact fun _ => rfl | exact fun h => h | (intro h; simp_all; done))); (exact .head _); rfl; (exact .head _); rfl; (exact by rw [Nat.mul_one]; exact ints_get hv))
    refine zgs ?_
    refine OL.callE (α := Bool) (fun r => .bool r) (fun r => r = true ↔ Fine bs v k p.1.ins.length) (fun _ => Cls [pile pB (fun k => k < pT) [⟨some qa, co, ints (operT p.1.term)⟩], blk b9 41 [.slice p.2.p.1 p.1.params.length p.2.p.2, .slice p.2.i.1 p.1.ins.length p.2.i.2, .int .i64 p.1.term.kind, .int .i64 p.1.term.arg, .int .i64 p.1.term.n, .slice p.2.t.c.1 p.1.term.cases.length p.2.t.c.2, .slice p.2.t.t.1 p.1.term.to_.length p.2.t.t.2], blk bR 4 (bls B), blk bF 24 [.int .i64 nm, .slice (some a) es.length cap]] [w]) rfl rfl (by exact Args.au) (fun w2 hw2 => hU v k p.1.ins.length hkl _ _ w2 hw2 (.head _) (fun k hk => by exact NotOwned.au) (by exact mau)) ?_
    intro r hr
    refine zgs ?_
    refine W.cond rfl (fun h3 => ?_) (fun h3 => ?_)
    ·have hnf : ¬ Fine bs v k p.1.ins.length := fun h => by rw [hr.2 h] at h3; cases h3
     have h6 := hbad k p.1 hbsk (fun h => hnf (h.2 v hvm)) hs0
     refine zgs ?_
     (refine zfn ?_; intro w' hw')
     exact ⟨by rw [h6], (hw'.thin (.any (fun k hk => ⟨Nat.le_trans hpB hk.1, trivial⟩) (.any (fun k hk => by rw [show k = b9 from hk]; exact ⟨hb91, trivial⟩) (.any (fun k hk => by rw [show k = bR from hk]; exact ⟨hbR, trivial⟩) (.any (fun k hk => by rw [show k = bF from hk]; exact ⟨hbF1, trivial⟩) Thin.same))))).fr (by exact mau) (fun k hk => NotOwned.nil)⟩
    ·have hfv : Fine bs v k p.1.ins.length := hr.1 (by simpa using h3)
     refine zgs ?_
     refine At.again (i + 1) ⟨by omega, fun m v' hm hv' => ?_⟩ (by omega) (by exact Sub.au) (fun w' hw' => hw')
     by_cases em : m = i
     ·subst em
      rw [hv] at hv'
      obtain rfl := Option.some.inj hv'
      exact hfv
     ·exact hi0 m v' (by omega) hv'
   ·obtain rfl : i = (operT p.1.term).length := by omega
    refine zgs ?_
    refine At.again (k + 1) ⟨by omega, fun k' b hk' hb' => ?_⟩ (by omega) (by exact Sub.au) (fun w' hw' => hw'.thin (.any (fun k hk => ⟨Nat.le_trans hpB hk.1, trivial⟩) (.any (fun k hk => by rw [show k = b9 from hk]; exact ⟨hb91, trivial⟩) Thin.same)))
    by_cases em : k' = k
    ·subst em
     rw [hbsk] at hb'
     obtain rfl := Option.some.inj hb'
     exact ⟨fun n i hi v hv => hn0 n i (List.getElem?_eq_some_iff.1 hi).1 hi v hv, fun v hv => by
      obtain ⟨m, hm⟩ := List.getElem?_of_mem hv
      exact hi0 m v (List.getElem?_eq_some_iff.1 hm).1 hm⟩
    ·exact hk0 k' b (by omega) hb'
 ·obtain rfl : k = es.length := by omega
  have h6 := hF.2 hs0 0 (.inl rfl) ⟨fun _ k b hb => hk0 k b (by have := (List.getElem?_eq_some_iff.1 hb).1; omega) hb, fun _ => rfl⟩
  refine zgs ?_
  (refine zfn ?_; intro w' hw')
  exact ⟨by rw [← h6], (hw'.thin (.any (fun k hk => by rw [show k = bR from hk]; exact ⟨hbR, trivial⟩) (.any (fun k hk => by rw [show k = bF from hk]; exact ⟨hbF1, trivial⟩) Thin.same))).fr (by exact mau) (fun k hk => NotOwned.nil)⟩
end Go.Proofs.Ytehelljmaiophaa.ss

/- The walks of the reference's SameInts, Fresh and Preds, and of few. Conditions: none. -/
namespace Go.Ss
open Go.Eng Go.RowKit
def wmax (a v : Int) : Int := if a < IntKind.i64.wrap (v + 1) then IntKind.i64.wrap (v + 1) else a
def freshB (a : Int) (b : Bk) : Int := (b.ins.map In.to_).foldl wmax (b.params.foldl wmax a)
def freshF (bs : List Bk) : Int := bs.foldl freshB 0
end Go.Ss
namespace Go.Proofs.Ytehelljmaiophaa.ss
set_option maxRecDepth 100000
open Go.Eng Go.RowKit Go.Ss
theorem SameInts_calls (q q2 : Option Addr) (cap cap2 : Nat) (l m : List Int) (w : World) (hl : l.length ≤ 9223372036854775807) (hm : m.length ≤ 9223372036854775807) (h : IntsO w (low w) l q) (h2 : IntsO w (low w) m q2) :
  Calls Try.prog 20 #[.slice q l.length cap, .slice q2 m.length cap2] w fun e w' => e = .returned (.bool (decide (l = m))) ∧ Ext w w' := by
 refine enter Try.func20 rfl Try.ntmps20 rfl (Cls.start w) (zen ?_)
 refine zgs ?_
 refine W.cnd ?_ ?_ <;> intro hne <;> try exact zwx hne
 ·have hd : decide (l = m) = false := decide_eq_false (fun e => by subst e; omega)
  rw [hd]
  refine zgs ?_
  (refine zfn ?_; intro w' hw')
  exact ⟨rfl, by (exact hw'.fr)⟩
 have hlm : l.length = m.length := by omega
 refine zgs ?_
 refine W.loop (G := Nat) (fun i => i ≤ l.length ∧ l.take i = m.take i) (fun i => l.length - i)
  (fun i => [(1, true, .slice q2 m.length cap2), (12, true, .slice q l.length cap), (13, true, .int .i64 (l.length : Int)), (14, true, .int .i64 (i : Int))])
  (fun i => Cls [] [w]) 0 ⟨by omega, rfl⟩ (by exact Sub.au) (fun w' hw' => hw') ?_
 rintro i ⟨hi, hi0⟩
 refine zgs ?_
 refine W.cnd ?_ ?_ <;> intro hlt <;> try exact zwx hlt
 ·have hil : i < l.length := by omega
  obtain ⟨a, x, hqa, hab, hx, hcx⟩ := h.get hil
  have hab : a.block < w.heap.size := hab
  obtain ⟨a2, x2, hqa2, hab2, hx2, hcx2⟩ := h2.get (show i < m.length by omega)
  have hab2 : a2.block < w.heap.size := hab2
  rw [hqa, hqa2]
  refine zgs ?_
  refine W.cnd ?_ ?_ <;> intro hxx <;> try exact zwx hxx
  ·have hd : decide (l = m) = false := decide_eq_false (fun e => by subst e; rw [hx] at hx2; exact hxx (Option.some.inj hx2).symm)
   rw [hd]
   refine zgs ?_
   (refine zfn ?_; intro w' hw')
   exact ⟨rfl, by (exact hw'.fr)⟩
  ·have hxx' : x2 = x := by simpa using hxx
   refine zgs ?_
   exact At.again (i + 1) ⟨by omega, by rw [List.take_add_one, List.take_add_one, hx, hx2, hi0, hxx']⟩ (by omega) (by exact Sub.au) (fun w' hw' => hw')
 ·obtain rfl : i = l.length := by omega
  have hd : decide (l = m) = true := decide_eq_true (by rw [List.take_length, hlm, List.take_length] at hi0; exact hi0)
  rw [hd]
  refine zgs ?_
  (refine zfn ?_; intro w' hw')
  exact ⟨rfl, by (exact hw'.fr)⟩
theorem Fresh_calls (es : List (Bk × BkY)) (q : Option Addr) (cap : Nat) (nm : Int) (w : World) (he : Arr bkR w (low w) es q) (hlen : es.length ≤ 140737488355328) :
  Calls Try.prog 13 [.agg #[.int .i64 nm, .slice q es.length cap]].toArray w fun e w' => e = .returned (.int .i64 (freshF (es.map Prod.fst))) ∧ Ext w w' := by
 obtain ⟨bs, hbs⟩ : ∃ bs, es.map Prod.fst = bs := ⟨_, rfl⟩
 have hbl : bs.length = es.length := by rw [← hbs, List.length_map]
 rw [hbs]
 refine enter Try.func13 rfl Try.ntmps13 rfl (Cls.start w) (zen ?_)
 apply W.sr
 apply OL.box; rfl; rfl; exact CellsL.agg; (intro bk hbk; simp only [AllLe, and_true] at hbk)
 refine zgs ?_
 refine W.loop (G := Nat) (fun k => k ≤ es.length) (fun k => es.length - k)
  (fun k => [(3, true, .int .i64 (freshF (bs.take k))), (11, true, .slice q es.length cap), (12, true, .int .i64 (es.length : Int)), (13, true, .int .i64 (k : Int))])
  (fun _ => Cls [] [w]) 0 (by omega) (by exact Sub.au) (fun w' hw' => hw'.thin (by exact Thin.au)) ?_
 rintro k hk
 refine zgs ?_
 refine W.cnd ?_ ?_ <;> intro hlt <;> try exact zwx hlt
 ·have hkl : k < es.length := by omega
  obtain ⟨a, p, hqa, hab, hp, hcell, hok⟩ := he.get hkl
  have hab : a.block < w.heap.size := hab
  have hcell : CellsAt w (a.add (k * 7)) [.slice p.2.p.1 p.1.params.length p.2.p.2, .slice p.2.i.1 p.1.ins.length p.2.i.2, .int .i64 p.1.term.kind, .int .i64 p.1.term.arg, .int .i64 p.1.term.n, .slice p.2.t.c.1 p.1.term.cases.length p.2.t.c.2, .slice p.2.t.t.1 p.1.term.to_.length p.2.t.t.2] := hcell
  have hbsk : bs[k]? = some p.1 := by rw [← hbs, List.getElem?_map, hp]; rfl
  have hpl := hok.pl
  have hil := hok.il
  obtain ⟨pi, hpi, hiarr⟩ := hok.i
  have hpil : p.1.ins.length = pi.length := by rw [← hpi, List.length_map]
  have hnx : freshF (bs.take (k + 1)) = freshB (freshF (bs.take k)) p.1 := by
   unfold freshF
   rw [List.take_add_one, hbsk, Option.toList_some, List.foldl_append]
   rfl
  unfold freshB at hnx
  generalize freshF (bs.take k) = z0 at *
  rw [hqa]
  refine zgs ?_
  apply OL.alloc; rfl; rfl; exact CellsL.agg; (intro bk hbk; simp only [AllLe, and_true] at hbk)
  refine zgs ?_
  revert bk
  intro b5 hb5
  have hb51 : w.heap.size ≤ b5 := by first | exact hb5 | exact hb5.1
  refine W.loop (G := Nat) (fun j => j ≤ p.1.params.length) (fun j => p.1.params.length - j)
   (fun j => [(3, true, .int .i64 ((p.1.params.take j).foldl wmax z0)), (5, true, .pointer (some ⟨b5, 0, none⟩)), (11, true, .slice (some a) es.length cap), (12, true, .int .i64 (es.length : Int)), (13, true, .int .i64 (k : Int)), (18, true, .slice p.2.p.1 p.1.params.length p.2.p.2), (19, true, .int .i64 (p.1.params.length : Int)), (20, true, .int .i64 (j : Int))])
   (fun _ => Cls [blk b5 41 [.slice p.2.p.1 p.1.params.length p.2.p.2, .slice p.2.i.1 p.1.ins.length p.2.i.2, .int .i64 p.1.term.kind, .int .i64 p.1.term.arg, .int .i64 p.1.term.n, .slice p.2.t.c.1 p.1.term.cases.length p.2.t.c.2, .slice p.2.t.t.1 p.1.term.to_.length p.2.t.t.2]] [w]) 0 (by omega) (by exact Sub.au) (fun w' hw' => hw') ?_
  rintro j hj
  refine zgs ?_
  refine W.cnd ?_ ?_ <;> intro hlt1 <;> try exact zwx hlt1
  ·obtain ⟨av, v, hqv, habv, hv, hcv⟩ := hok.p.get (show j < p.1.params.length by omega)
   have habv : av.block < w.heap.size := habv
   have hn1 : (p.1.params.take (j + 1)).foldl wmax z0 = wmax ((p.1.params.take j).foldl wmax z0) v := by
    rw [List.take_add_one, hv, Option.toList_some, List.foldl_append]
    rfl
   rw [hqv]
   refine zgs ?_
   exact At.again (j + 1) (by omega) (by omega) (by rw [hn1]; unfold wmax; exact Sub.au) (fun w' hw' => hw')
  obtain rfl : j = p.1.params.length := by omega
  rw [List.take_length]
  generalize p.1.params.foldl wmax z0 = z1 at *
  refine zgs ?_
  refine W.loop (G := Nat) (fun j => j ≤ pi.length) (fun j => pi.length - j)
   (fun j => [(3, true, .int .i64 (((p.1.ins.map In.to_).take j).foldl wmax z1)), (11, true, .slice (some a) es.length cap), (12, true, .int .i64 (es.length : Int)), (13, true, .int .i64 (k : Int)), (30, true, .slice p.2.i.1 pi.length p.2.i.2), (31, true, .int .i64 (pi.length : Int)), (32, true, .int .i64 (j : Int))])
   (fun _ => Cls [] [w]) 0 (by omega) (by rw [← hpil]; exact Sub.au) (fun w' hw' => hw'.thin (.any (fun k hk => by rw [show k = b5 from hk]; exact ⟨hb51, trivial⟩) Thin.same)) ?_
  rintro j hj
  refine zgs ?_
  refine W.cnd ?_ ?_ <;> intro hlt2 <;> try exact zwx hlt2
  ·obtain ⟨ai, u, hqi, haib, hu, hcu, hoku⟩ := hiarr.get (show j < pi.length by omega)
   have haib : ai.block < w.heap.size := haib
   have hcu : CellsAt w (ai.add (j * 4)) [.int .i64 u.1.to_, .int .i64 u.1.op, .int .i64 u.1.n, .slice u.2.1 u.1.args.length u.2.2] := hcu
   have hui : (p.1.ins.map In.to_)[j]? = some u.1.to_ := by rw [← hpi]; simp [hu]
   have hn1 : ((p.1.ins.map In.to_).take (j + 1)).foldl wmax z1 = wmax (((p.1.ins.map In.to_).take j).foldl wmax z1) u.1.to_ := by
    rw [List.take_add_one, hui, Option.toList_some, List.foldl_append]
    rfl
   rw [hqi]
   refine zgs ?_
   apply OL.alloc; rfl; rfl; exact CellsL.agg; (intro bk hbk; simp only [AllLe, and_true] at hbk)
   refine zgs ?_
   exact At.again (j + 1) (by omega) (by omega) (by rw [hn1]; unfold wmax; exact Sub.au) (fun w' hw' => hw'.thin (by exact Thin.au))
  obtain rfl : j = pi.length := by omega
  rw [show (p.1.ins.map In.to_).take pi.length = p.1.ins.map In.to_ by rw [List.take_of_length_le]; simp [hpil]]
  rw [← hnx]
  refine zgs ?_
  exact At.again (k + 1) (by omega) (by omega) (by exact Sub.au) (fun w' hw' => hw')
 obtain rfl : k = es.length := by omega
 rw [← hbl, List.take_length]
 refine zgs ?_
 (refine zfn ?_; intro w' hw')
 exact ⟨rfl, by (exact hw'.fr)⟩
end Go.Proofs.Ytehelljmaiophaa.ss

/- Rows that grow side by side: an item for a table of them, one taken out and put back. General. No condition. -/
namespace Go.Eng
open Go.RowKit
structure Rw where
 O : Nat → Prop
 q : Option Addr
 m : Nat
 cap : Nat
 xs : List Value
def Rw.it (B : Nat) (e : TypeId) (sz : Nat) (r : Rw) : Item := row B r.O r.q r.m r.cap e sz r.xs
def rws (B : Nat) (e : TypeId) (sz : Nat) (f : Nat → Option Rw) : Item :=
 ⟨fun k => ∃ i r, f i = some r ∧ (r.it B e sz).own k,
  fun w => (∀ i r, f i = some r → (r.it B e sz).holds w) ∧ ∀ i j r s, i ≠ j → f i = some r → f j = some s → ∀ k, (r.it B e sz).own k → ¬ (s.it B e sz).own k,
  fun w w' hk h => ⟨fun i r hr => (r.it B e sz).stab w w' (fun k ho => hk k ⟨i, r, hr, ho⟩) (h.1 i r hr), h.2⟩⟩
theorem NotOwned.rws {H : List Item} {B sz k : Nat} {e : TypeId} {f : Nat → Option Rw} (h : k < B) (r : NotOwned H k) : NotOwned (Eng.rws B e sz f :: H) k :=
 NotOwned.any (fun ho => by
  obtain ⟨i, r, _, h2⟩ := ho
  exact absurd h2.1 (by omega)) r
end Go.Eng

/- The walks of the reference's Preds and of cfg's Preds. Conditions: none. -/
namespace Go.Ss
open Go.Eng Go.RowKit
theorem func_zero {f : Go.Ss.Fn} (h : funcE f = 0) : 0 < f.blocks.length ∧ f.blocks.length ≤ 128 ∧ shapeE f.blocks = 0 := by
 unfold funcE at h
 split at h
 ·cases h
 ·split at h
  ·cases h
  ·split at h
   ·cases h
   ·split at h
    ·rename_i h4; exact absurd h h4
    ·rename_i h1 h2 h3 h4
     exact ⟨by omega, by omega, Classical.not_not.1 h4⟩
def RwsOf (L : List Rw) (n : Nat) (f : Nat → List Int) : Prop := L.length = n ∧ ∀ (k : Nat) r, L[k]? = some r → r.xs = ints (f k) ∧ r.m = (f k).length
theorem RwsOf.set {L : List Rw} {n i : Nat} {f g : Nat → List Int} {r : Rw} (h : RwsOf L n f) (hr : r.xs = ints (g i) ∧ r.m = (g i).length) (hg : ∀ k, k ≠ i → g k = f k) : RwsOf (L.set i r) n g := by
 refine ⟨by rw [List.length_set]; exact h.1, fun k s hs => ?_⟩
 rw [List.getElem?_set] at hs
 split at hs
 ·rename_i e
  subst e
  split at hs
  ·obtain rfl := Option.some.inj hs
   exact hr
  ·cases hs
 ·rename_i e
  rw [hg k (fun e2 => e e2.symm)]
  exact h.2 k s hs
end Go.Ss
namespace Go.Proofs.Ytehelljmaiophaa.ss
set_option maxRecDepth 100000
open Go.Eng Go.RowKit Go.Ss
structure XP5 (S : List World) where
 b1 : Nat
 hb1 : AllLe S b1
 g1 : Nat
 c1 : Nat
 O1 : Nat → Prop
 old : Nat → Value
end Go.Proofs.Ytehelljmaiophaa.ss

/- Plain: the depth-first search by recursion and by a stack. No program in sight. No condition. -/
namespace Go.Ss
abbrev VS := List Bool × List Int
def nxt (G : List (List Int)) (k : Nat) : List Int := G.getD k []
def vis (G : List (List Int)) : Nat → Nat → VS → VS
 | 0, _, st => st
 | f + 1, k, st =>
  (((nxt G k).foldl (fun st e => if st.1.getD e.toNat true then st else vis G f e.toNat st) (st.1.set k true, st.2)).1,
   ((nxt G k).foldl (fun st e => if st.1.getD e.toNat true then st else vis G f e.toNat st) (st.1.set k true, st.2)).2 ++ [(k : Int)])
def unseen (S : List Bool) : Nat := S.count false
theorem unseen_set : ∀ {S : List Bool} {k : Nat}, S[k]? = some false → unseen (S.set k true) + 1 = unseen S
 | [], k, h => by simp at h
 | b :: S, 0, h => by
  simp at h
  subst h
  simp [unseen]
 | b :: S, k + 1, h => by
  have := unseen_set (S := S) (k := k) (by simpa using h)
  simp only [unseen, List.set_cons_succ, List.count_cons] at this ⊢
  omega
structure VLe (s t : VS) : Prop where
 len : t.1.length = s.1.length
 un : unseen t.1 ≤ unseen s.1
 le : ∀ i : Nat, s.1[i]? = some true → t.1[i]? = some true
 pre : ∃ r, t.2 = s.2 ++ r
theorem VLe.refl (s : VS) : VLe s s := ⟨rfl, Nat.le_refl _, fun _ h => h, [], by simp⟩
theorem VLe.trans {s t u : VS} (h : VLe s t) (h' : VLe t u) : VLe s u := ⟨h'.len.trans h.len, Nat.le_trans h'.un h.un, fun i hi => h'.le i (h.le i hi), by
 obtain ⟨r, hr⟩ := h.pre
 obtain ⟨r', hr'⟩ := h'.pre
 exact ⟨r ++ r', by rw [hr', hr, List.append_assoc]⟩⟩
theorem VLe.mark {S : List Bool} {out : List Int} (k : Nat) : VLe (S, out) (S.set k true, out) := by
 refine ⟨by simp, ?_, fun i hi => ?_, [], by simp⟩
 ·show unseen (S.set k true) ≤ unseen S
  cases h : S[k]? with
  | none =>
   rw [List.set_eq_of_length_le (List.getElem?_eq_none_iff.1 h)]
   exact Nat.le_refl _
  | some b =>
   cases b with
   | false => have := unseen_set h; omega
   | true =>
    have : S.set k true = S := by
     apply List.ext_getElem?
     intro j
     rw [List.getElem?_set]
     split
     ·rename_i e
      subst e
      rw [h, if_pos (List.getElem?_eq_some_iff.1 h).1]
     ·rfl
    rw [this]
    exact Nat.le_refl _
 ·show (S.set k true)[i]? = some true
  rw [List.getElem?_set]
  split
  ·rename_i e
   subst e
   rw [if_pos (List.getElem?_eq_some_iff.1 hi).1]
  ·exact hi
def visC (G : List (List Int)) (k : Nat) (st : VS) : VS := vis G (st.1.length + 1) k st
def stepC (G : List (List Int)) (st : VS) (e : Int) : VS := if st.1.getD e.toNat true then st else visC G e.toNat st
def foldC (G : List (List Int)) (st : VS) (l : List Int) : VS := l.foldl (stepC G) st
/-! ### by a stack -/
def run (G : List (List Int)) : List (Nat × Nat) → VS → VS
 | [], st => st
 | p :: r, st => run G r ((foldC G st ((nxt G p.1).drop p.2)).1, (foldC G st ((nxt G p.1).drop p.2)).2 ++ [(p.1 : Int)])
end Go.Ss

/- The walks of the reference's visit and After. Conditions: none. -/
namespace Go.Eng
open Go.RowKit
end Go.Eng
namespace Go.Ss
open Go.Eng Go.RowKit
end Go.Ss
namespace Go.Proofs.Ytehelljmaiophaa.ss
set_option maxRecDepth 100000
open Go.Eng Go.RowKit Go.Ss
end Go.Proofs.Ytehelljmaiophaa.ss

/- The walks of cfg's search with what Order hands it. Conditions: none. -/
namespace Go.Eng
open Go.RowKit
theorem AllLe.of {k : Nat} : ∀ {S : List World}, (∀ s ∈ S, s.heap.size ≤ k) → AllLe S k
 | [], _ => trivial
 | s :: S, h => ⟨h s (.head _), AllLe.of fun x hx => h x (.tail _ hx)⟩
section
variable {P : Program} {n : Nat} {l : Env} {H : List Item} {S : List World} {ops : Array Oper} {rest : List Oper} {Q : Exit → Act → World → Prop} {t ty : TypeId} {x y : Operand} {pos : String} {af : Array Edge}
end
end Go.Eng
namespace Go.Ss
open Go.Eng Go.RowKit
structure SgS where
 st : List (Nat × Nat)
 S : List Bool
 out : List Int
 y : GR
 z : GR
structure SInv (G : List (List Int)) (n : Nat) (fin : VS) (g : SgS) : Prop where
 run : Go.Ss.run G g.st (g.S, g.out) = fin
 len : g.S.length = n
 cnt : g.st.length + g.out.length + unseen g.S ≤ n
 ok : ∀ p ∈ g.st, p.1 < n ∧ p.2 ≤ (nxt G p.1).length
end Go.Ss
namespace Go.Proofs.Ytehelljmaiophaa.ss
set_option maxRecDepth 100000
open Go.Eng Go.RowKit Go.Ss
end Go.Proofs.Ytehelljmaiophaa.ss

/- A grown row that a function of the library writes over in place (a sort, a compaction). General. No condition. -/
namespace Go.Eng
open Go.RowKit Go.Sort
end Go.Eng

/-
 DERIVED: THE SHELF's CONTRACTS AT THIS DUMP, IN PLAIN WORDS (tools/lay-plain.mjs out of 'YtehelljmaiophaaShelfD.lean', which tools/lay-shelf.mjs wrote): THE SAME DECLARATIONS UNDER THE SAME NAMES: 'import', 'namespace', 'open', 'def', 'theorem' AND NOTHING ELSE: no command of the shelf's: FOR A HAND-IN. Each laying: the table of numbers ('.._ren') and one theorem, a field a fact of the dump's own or the kernel's comparison; each contract: ONE APPLICATION.
-/
namespace Go.Proofs
open Go.Shelf
end Go.Proofs

/- The walks of cfg's Order and Reachable. Conditions: none. -/
namespace Go.Eng
open Go.RowKit
theorem Cls.plus {H : List Eng.Item} {S : List World} {w2 w3 : World} {i : Eng.Item} (h : Cls H S w2) (hc : Cls [i] [w2] w3) (ho : ∀ k, i.own k → w2.heap.size ≤ k) : Cls (i :: H) S w3 :=
 h.add (hc.toExt (.head _) (fun k hk => NotOwned.any (fun hm => by have := ho k hm; omega) .nil)) i (hc.holds _ (.head _)) (fun k hk => ⟨ho k hk, hc.lt _ (.head _) k hk⟩)
theorem Cls.row_base {H : List Eng.Item} {S : List World} {w : World} {B B' m cap size : Nat} {O : Nat → Prop} {q : Option Addr} {e : TypeId} {xs : List Value} (h : Cls (row B O q m cap e size xs :: H) S w) (hB : B' ≤ B) : Cls (row B' (fun k => B ≤ k ∧ O k) q m cap e size xs :: H) S w := by
 have hd := List.pairwise_cons.1 h.dj
 refine ⟨fun i hi => ?_, fun i hi => ?_, .cons (fun j hj k hk => hd.1 j hj k hk.2) hd.2, fun s hs => (h.kp s hs).mono fun k _ ⟨j, hj, hjk⟩ => ?_⟩
 ·cases hi with
  | head =>
   have h0 : (row B O q m cap e size xs).holds w := h.holds _ (.head _)
   refine ⟨fun a ha => ⟨?_, h0.1 a ha⟩, h0.2.1, ?_⟩
   ·rcases h0.2.2 with ⟨h3, _⟩ | ⟨g, cap', cur, h3, hb, _⟩
    ·rw [ha] at h3; cases h3
    ·rw [ha] at h3
     simp only [Value.slice.injEq, Option.some.injEq] at h3
     rw [h3.1]; exact hb
   ·rcases h0.2.2 with h3 | ⟨g, cap', cur, h3, hb, h4⟩
    ·exact .inl h3
    ·exact .inr ⟨g, cap', cur, h3, by omega, h4⟩
  | tail _ hi => exact h.holds _ (.tail _ hi)
 ·cases hi with
  | head => exact fun k hk => h.lt (row B O q m cap e size xs) (.head _) k hk.2
  | tail _ hi => exact h.lt _ (.tail _ hi)
 ·cases hj with
  | head =>
   have hjk' : B ≤ k ∧ O k := hjk
   exact ⟨_, .head _, by omega, hjk'⟩
  | tail _ hj => exact ⟨_, .tail _ hj, hjk⟩
end Go.Eng
namespace Go.Ss
open Go.Eng Go.RowKit
end Go.Ss
namespace Go.Proofs.Ytehelljmaiophaa.ss
open Go.Eng Go.RowKit Go.Ss Go.Shelf Go.Sort
set_option maxRecDepth 100000
end Go.Proofs.Ytehelljmaiophaa.ss

/- The walks of the law's diamond and cfgWorks. Conditions: none. -/
namespace Go.Ss
open Go.Eng Go.RowKit
theorem arrBlk {α μ : Type} {R : Rel α μ} {w : World} {b : Nat} {e : TypeId} {l : List (α × μ)} (hb : (blk b e (cat R.c l)).holds w) (he : ∀ p ∈ l, R.ok w (low w) p.1 p.2) : Arr R w (low w) l (some ⟨b, 0, none⟩) :=
 ⟨fun _ => ⟨_, rfl, blk_lt hb, fun j v hj => by rw [add_mid, blk_cell hb, Nat.zero_add]; exact hj⟩, he⟩
theorem blkInts {w : World} {b : Nat} {e : TypeId} {l : List Int} (hb : (blk b e (ints l)).holds w) : IntsO w (low w) l (some ⟨b, 0, none⟩) :=
 fun _ => ⟨_, rfl, blk_lt hb, fun j v hj => by rw [add_mid, blk_cell hb, Nat.zero_add]; exact hj⟩
theorem nilS (w : World) (O : Nat → Prop) : IntsO w O [] none := IntsO.nil
end Go.Ss
namespace Go.Proofs.Ytehelljmaiophaa.ss
set_option maxRecDepth 100000
open Go.Eng Go.RowKit Go.Ss
end Go.Proofs.Ytehelljmaiophaa.ss

/- A region that draws its order, whose pure operations come first, whatever its other ones wait for, and whose other ones then follow one behind another. General. No condition. -/
namespace Go.Eng
open Go.RowKit
def pureB (o : Oper) : Bool := match o.op with
 | .move _ => true
 | .assign _ => true
 | .pick .. => true
 | .build .. => true
 | .load .. => true
 | .nilCheck _ => true
 | .binOp .. => true
 | .unOp .. => true
 | .convert .. => true
 | .makeFunc .. => true
 | .slice .. => true
 | .fieldAddr .. => true
 | .field .. => true
 | .indexAddr .. => true
 | .index .. => true
 | .lookup .. => true
 | .extract .. => true
 | .call c => match c.callee with
  | .builtin .len => true
  | .builtin .min => true
  | .builtin .max => true
  | _ => false
 | _ => false
def depB (o : Oper) : Bool := match o.op with
 | .load .. => true
 | .lookup .. => true
 | .index .. => true
 | .convert .. => true
 | _ => false
section
variable {P : Program} {ops : Array Oper} {C0 : World → Prop}
theorem value_only {M : Sem Value} {w : World} {n : Next} {w' : World} (h : (do pure (.value (← M)) : Sem Next).run P w = .ok n w') : ∃ u, n = .value u := by
 rw [Sem.run_bind] at h
 generalize M.run P w = r at h
 cases r with
 | ok v w1 => simp [Result.andThen] at h; exact ⟨v, h.1.symm⟩
 | halt x w1 => simp [Result.andThen] at h
theorem value_bind {α : Type} {M : Sem α} {f : α → Sem Next} (hf : ∀ x w n w', (f x).run P w = .ok n w' → ∃ u, n = .value u) (w : World) (n : Next) (w' : World) (h : (M >>= f).run P w = .ok n w') : ∃ u, n = .value u := by
 rw [Sem.run_bind] at h
 generalize M.run P w = r at h
 cases r with
 | ok v w1 => exact hf _ _ _ _ h
 | halt x w1 => simp [Result.andThen] at h
theorem pure_value {o : Oper} {ρ : Operand → Value} {w : World} {n : Next} {w' : World} (hp : pureB o = true) (h : (execOp ρ o).run P w = .ok n w') : ∃ u, n = .value u := by
 obtain ⟨dst, op, type, pos, after, guard⟩ := o
 cases op <;> simp only [pureB, Bool.false_eq_true] at hp <;> simp only [execOp] at h <;> try (exact value_only h)
 case move x => simp at h; exact ⟨_, h.1.symm⟩
 case assign x => simp at h; exact ⟨_, h.1.symm⟩
 case pick c a b =>
  rw [Sem.run_bind] at h
  generalize (asBool (ρ c)).run P w = r at h
  cases r with
  | ok v w1 => simp [Result.andThen] at h; exact ⟨_, h.1.symm⟩
  | halt x w1 => simp [Result.andThen] at h
 case nilCheck x =>
  split at h
  ·simp [runtimePanic] at h
  ·simp [runtimePanic] at h
  ·simp [runtimePanic] at h
  ·split at h
   ·simp [runtimePanic] at h
   ·refine value_bind (fun p => value_bind (fun q => ?_)) _ _ _ h
    intro w n w' h
    split at h
    ·simp only [unsupported, Sem.run_bind] at h
     simp at h
    ·simp at h; exact ⟨_, h.1.symm⟩
   ·simp at h; exact ⟨_, h.1.symm⟩
  ·simp at h; exact ⟨_, h.1.symm⟩
 case call c =>
  obtain ⟨callee, args, ats⟩ := c
  cases callee with
  | builtin b =>
   cases b <;> simp only [Bool.false_eq_true] at hp <;> simp only [resolve, invoke, builtin, Sem.run_bind, Sem.run_pure, Result.andThen_ok] at h
   case len =>
    generalize (Builtin.len_ ats type (Array.map ρ args)).run P w = r at h
    cases r with
    | ok v w1 => simp [Result.andThen] at h; exact ⟨v, h.1.symm⟩
    | halt x w1 => simp [Result.andThen] at h
   case min =>
    generalize (Builtin.min_ ats type (Array.map ρ args)).run P w = r at h
    cases r with
    | ok v w1 => simp [Result.andThen] at h; exact ⟨v, h.1.symm⟩
    | halt x w1 => simp [Result.andThen] at h
   case max =>
    generalize (Builtin.max_ ats type (Array.map ρ args)).run P w = r at h
    cases r with
    | ok v w1 => simp [Result.andThen] at h; exact ⟨v, h.1.symm⟩
    | halt x w1 => simp [Result.andThen] at h
  | value f => simp at hp
  | invoke r m => simp at hp
theorem still_of {D : World → Prop} {o : Oper} {ρ : Operand → Value} {w : World} {v : Value} (hp : pureB o = true) (h : Oper.quietUpon P D w v ((execOp ρ o).run P w)) : (execOp ρ o).run P w = .ok (.value v) w := by
 cases hr : (execOp ρ o).run P w with
 | ok n w' =>
  obtain ⟨u, rfl⟩ := pure_value hp hr
  rw [hr] at h
  simp only [Oper.quietUpon] at h
  rw [h.1, h.2]
 | halt x w' => rw [hr] at h; simp only [Oper.quietUpon] at h
/-! ### What one operation yields, where the class is asked of operations that look at memory alone -/
def YieldsZ (P : Program) (ops : Array Oper) (C0 : World → Prop) (o : Oper) (v : Value) (a : Act) : Prop :=
 (Region.wanted o (yielded ops a.tmps) = true ∧ ∀ w, (depB o = true → C0 w) → (execOp a.eval o).run P w = .ok (.value v) w) ∨
 (Region.wanted o (yielded ops a.tmps) = false ∧ v = undef)
theorem YieldsZ.of_same {o : Oper} {v : Value} {a a' : Act} (hy : YieldsZ P ops C0 o v a) (he : execOp a'.eval o = execOp a.eval o)
  (hw : Region.wanted o (yielded ops a'.tmps) = Region.wanted o (yielded ops a.tmps)) : YieldsZ P ops C0 o v a' := by
 unfold YieldsZ at *
 rw [he, hw]
 exact hy
variable {Q : Exit → Act → World → Prop}
theorem YieldsZ.wpOp {i : Nat} {o : Oper} {v : Value} {a : Act} (hi : ops[i]? = some o) (hy : YieldsZ P ops C0 o v a) {K : Act → World → Prop} {w : World} (hw0 : depB o = true → C0 w) (h : K (a.put o.dst v) w) : wpOp P ops Q i K a w := by
 unfold Go.wpOp
 simp only [hi]
 rcases hy with ⟨hw, hv⟩ | ⟨hw, rfl⟩
 ·simp only [hw, if_true, Oper.wp, hv w hw0, Oper.upon]; exact .inl h
 ·simp only [hw, Bool.false_eq_true, if_false]; exact h
theorem wpOp_putZ {j : Nat} {oi oj : Oper} {v : Value} (hj : ops[j]? = some oj) (hap : oi.apart ops oj = true)
  (hsi : ∀ cs b, oi.op ≠ .select cs b) (hsj : ∀ cs b, oj.op ≠ .select cs b) (hQ : ∀ c a w, ¬ Q (.panic c) a w) {K : Act → World → Prop} {a : Act} {w : World}
  (hy : YieldsZ P ops C0 oi v a) (h : wpOp P ops Q j K (a.put oi.dst v) w) :
  wpOp P ops Q j (fun a' w' => YieldsZ P ops C0 oi v a' ∧ K (a'.put oi.dst v) w') a w := by
 obtain ⟨h1, h2, h3⟩ := Oper.apart_spec hap
 have keep : ∀ (a : Act), YieldsZ P ops C0 oi v a → ∀ u, YieldsZ P ops C0 oi v (a.put oj.dst u) := fun a hy u =>
  hy.of_same (execOp_put oi hsi a oj.dst u h3) (wanted_put oi a oj.dst u h3)
 have keepD : ∀ d, YieldsZ P ops C0 oi v { a with defers := d :: a.defers } := fun d => hy.of_same rfl rfl
 unfold Go.wpOp at *
 simp only [hj] at *
 rw [wanted_put oj a oi.dst v h1] at h
 split
 ·rename_i hw
  simp only [hw, if_true] at h
  rcases h with h | ⟨hasks, hlets⟩
  case inr => exact .inr ⟨by unfold Oper.asks at *; rw [execOp_put oj hsj a oi.dst v h1] at hasks; exact hasks, hlets⟩
  refine .inl ?_
  unfold Oper.wp at *
  rw [execOp_put oj hsj a oi.dst v h1] at h
  generalize (execOp a.eval oj).run P w = r at *
  cases r with
  | ok n w' =>
   cases n <;> simp only [Oper.upon] at h ⊢
   case value u => exact ⟨keep a hy u, by rw [← Act.put_comm a v u h2]; exact h⟩
   case skip => exact ⟨keep a hy _, by rw [← Act.put_comm a v undef h2]; exact h⟩
   case defer d =>
    refine ⟨keep _ (keepD d) _, ?_⟩
    rw [← Act.put_comm _ v undef h2, ← Act.put_defers]
    exact h
   case enter f args =>
    refine Calls.mono h fun e w'' he => ?_
    cases e with
    | returned u => exact ⟨keep a hy u, by rw [← Act.put_comm a v u h2]; exact he⟩
    | panicked c => exact absurd he (hQ _ _ _)
    | outgrown => exact he
   case row row args => exact Rows.mono h fun u w'' he => ⟨keep a hy u, by rw [← Act.put_comm a v u h2]; exact he⟩
  | halt x w' =>
   cases x <;> simp only [Oper.upon] at h ⊢
   case panic u => exact absurd h (hQ _ _ _)
 ·rename_i hw
  simp only [hw] at h
  exact ⟨keep a hy _, by rw [← Act.put_comm a v undef h2]; exact h⟩
/-! ### Whatever order: what some operations keep is told -/
def wpZ (P : Program) (ops : Array Oper) (C0 : World → Prop) (need : Nat → Bool) (Q : Exit → Act → World → Prop) : Nat → Array Bool → Act → World → Prop
 | 0, li, a, w => Region.ready .any ops li = [] ∧ Q .normal a w
 | f + 1, li, a, w => (Region.ready .any ops li = [] → Q .normal a w) ∧ ∀ i ∈ Region.ready .any ops li, wpOp P ops Q i (fun a' w' => (need i = true → C0 w → C0 w') ∧ wpZ P ops C0 need Q f (li.setIfInBounds i true) a' w') a w
theorem wpAny_of_Z {need : Nat → Bool} : ∀ (f : Nat) (li : Array Bool) (a : Act) (w : World), wpZ P ops C0 need Q f li a w → wpAny P .any ops Q f li a w
 | 0, _, _, _, h => h
 | f + 1, li, a, w, h => ⟨h.1, fun i hi => wpOp_mono (fun a' w' h' => wpAny_of_Z f _ a' w' h'.2) (h.2 i hi)⟩
theorem wpZ_first {need : Nat → Bool} {i : Nat} {oi : Oper} {v : Value} (hi : ops[i]? = some oi) (hsel : ∀ (j : Nat) (o : Oper) cs b, ops[j]? = some o → o.op ≠ .select cs b) (hQ : ∀ c a w, ¬ Q (.panic c) a w) :
  ∀ (fuel : Nat) (li : Array Bool) (a : Act) (w : World), Dn ops li →
   (∀ j oj, ops[j]? = some oj → j ≠ i → li.getD j true = false → waitsB ops ops.size j i = false → oi.apart ops oj = true ∧ (depB oi = true → need j = true)) →
   i ∈ Region.ready .any ops li → YieldsZ P ops C0 oi v a → (depB oi = true → C0 w) →
   wpZ P ops C0 need Q fuel (li.setIfInBounds i true) (a.put oi.dst v) w → wpZ P ops C0 need Q (fuel + 1) li a w := by
 intro fuel
 induction fuel with
 | zero =>
  intro li a w hD _ hr hy hC H
  refine ⟨fun h => (by rw [h] at hr; cases hr), fun j hj => ?_⟩
  by_cases hji : j = i
  ·subst hji; exact hy.wpOp hi hC ⟨fun _ h => h, H⟩
  ·have := ready_mono hj hji
   rw [H.1] at this
   cases this
 | succ fuel ih =>
  intro li a w hD hfree hr hy hC H
  refine ⟨fun h => (by rw [h] at hr; cases hr), fun j hj => ?_⟩
  by_cases hji : j = i
  ·subst hji; exact hy.wpOp hi hC ⟨fun _ h => h, H⟩
  ·have h1 := H.2 j (ready_mono hj hji)
   obtain ⟨hjun, oj, hoj, hall⟩ := mem_ready.1 hj
   have hnw : waitsB ops ops.size j i = false := by
    cases hw : waitsB ops ops.size j i with
    | false => rfl
    | true =>
     have h2 := waits_done hD _ j oj hoj hall hw
     rw [getD_ft (mem_ready.1 hr).1] at h2
     cases h2
   obtain ⟨hap, hn⟩ := hfree j oj hoj hji hjun hnw
   have h2 := wpOp_putZ hoj hap (fun cs b => hsel i oi cs b hi) (fun cs b => hsel j oj cs b hoj) hQ hy h1
   have hfree' : ∀ k ok, ops[k]? = some ok → k ≠ i → (li.setIfInBounds j true).getD k true = false → waitsB ops ops.size k i = false → oi.apart ops ok = true ∧ (depB oi = true → need k = true) := fun k ok hk hki hun hno => by
    refine hfree k ok hk hki ?_ hno
    by_cases hjk : j = k
    ·subst hjk; exact hjun
    ·rw [getD_set_ne true hjk] at hun; exact hun
   refine wpOp_mono (fun a' w' h3 => ⟨h3.2.1, ih (li.setIfInBounds j true) a' w' (hD.set hj) hfree' (ready_mono hr (Ne.symm hji)) h3.1 (fun hd => h3.2.1 (hn hd) (hC hd)) ?_⟩) h2
   rw [Array.setIfInBounds_comm _ _ hji]
   exact h3.2.2
/-! ### The pure ones first -/
def freeZ (ops : Array Oper) (li : Array Bool) (i : Nat) : Bool :=
 match ops[i]? with
 | none => false
 | some oi => (List.range ops.size).all fun j => Nat.beq j i || (li.getD j true || (waitsB ops ops.size j i || (match ops[j]? with
   | some oj => oi.apart ops oj
   | none => true)))
def needZ (ops : Array Oper) (xi : List Nat) (k : Nat) : Bool := xi.any fun i => (match ops[i]? with | some o => depB o | none => false) && !waitsB ops ops.size k i
theorem freeZ_spec {i : Nat} {oi : Oper} {li : Array Bool} {xi : List Nat} (hi : ops[i]? = some oi) (hx : i ∈ xi) (h : freeZ ops li i = true) (j : Nat) (oj : Oper) (hj : ops[j]? = some oj) (hne : j ≠ i) (hun : li.getD j true = false) (hno : waitsB ops ops.size j i = false) :
  oi.apart ops oj = true ∧ (depB oi = true → needZ ops xi j = true) := by
 simp only [freeZ, hi, List.all_eq_true, List.mem_range] at h
 have h1 := h j (Array.getElem?_eq_some_iff.1 hj).1
 have hb : Nat.beq j i = false := by
  rw [Bool.eq_false_iff]; intro hb; exact hne (Nat.eq_of_beq_eq_true hb)
 simp only [hj, hun, hno, hb, Bool.false_or] at h1
 refine ⟨h1, fun hd => List.any_eq_true.2 ⟨i, hx, ?_⟩⟩
 simp [hi, hd, hno]
def preZ (ops : Array Oper) : List Nat → Array Bool → Bool
 | [], _ => true
 | i :: r, li => (Region.ready .any ops li).contains i && (freeZ ops li i && preZ ops r (li.setIfInBounds i true))
def runZ : List Nat → Array Bool → Array Bool
 | [], li => li
 | i :: r, li => runZ r (li.setIfInBounds i true)
def seqZ (ops : Array Oper) : List Nat → Array Bool → Bool
 | [], li => (Region.ready .any ops li).isEmpty
 | k :: t, li => (Region.ready .any ops li == [k]) && seqZ ops t (li.setIfInBounds k true)
def wpZL (P : Program) (ops : Array Oper) (C0 : World → Prop) (K : Act → Prop) : List Oper → Act → Prop
 | [], a => K a
 | o :: r, a => if Region.wanted o (yielded ops a.tmps) then ∃ v, (∀ w, (depB o = true → C0 w) → (execOp a.eval o).run P w = .ok (.value v) w) ∧ wpZL P ops C0 K r (a.put o.dst v) else wpZL P ops C0 K r (a.put o.dst undef)
def wpT (P : Program) (ops : Array Oper) (C0 : World → Prop) (need : Nat → Bool) (Q : Exit → Act → World → Prop) : List (Nat × Oper) → Act → World → Prop
 | [], a, w => Q .normal a w
 | (k, _) :: r, a, w => wpOp P ops Q k (fun a' w' => (need k = true → C0 w') ∧ wpT P ops C0 need Q r a' w') a w
theorem wpZ_seq {need : Nat → Bool} : ∀ (y : List (Nat × Oper)) (li : Array Bool) (a : Act) (w : World), seqZ ops (y.map (·.1)) li = true → wpT P ops C0 need Q y a w → wpZ P ops C0 need Q y.length li a w
 | [], li, a, w, hB, h => ⟨by simpa [seqZ] using hB, h⟩
 | (k, o) :: r, li, a, w, hB, h => by
  simp only [List.map_cons, seqZ, Bool.and_eq_true, beq_iff_eq] at hB
  refine ⟨fun h' => (by rw [hB.1] at h'; cases h'), fun i hi => ?_⟩
  rw [hB.1, List.mem_singleton] at hi
  subst hi
  exact wpOp_mono (fun a' w' h3 => ⟨fun hn _ => h3.1 hn, wpZ_seq r _ a' w' hB.2 h3.2⟩) h
theorem wpZ_pre {xi0 : List Nat} (hs : Region.noSelect ops = true) (hQ : ∀ c a w, ¬ Q (.panic c) a w) {K : Act → Prop} {f : Nat} {w : World} (hw : C0 w) : ∀ (x : List (Nat × Oper)) (li : Array Bool) (a : Act), (∀ p ∈ x, p.1 ∈ xi0 ∧ ops[p.1]? = some p.2) → Dn ops li →
  preZ ops (x.map (·.1)) li = true → wpZL P ops C0 K (x.map (·.2)) a → (∀ a, K a → wpZ P ops C0 (needZ ops xi0) Q f (runZ (x.map (·.1)) li) a w) → wpZ P ops C0 (needZ ops xi0) Q (x.length + f) li a w
 | [], li, a, _, _, _, h, hK => by
  rw [List.length_nil, Nat.zero_add]; exact hK a h
 | (i, o) :: r, li, a, hx, hD, hB, h, hK => by
  obtain ⟨hmem, hi⟩ := hx _ (.head _)
  simp only [List.map_cons, preZ, Bool.and_eq_true] at hB
  obtain ⟨hr, hf, hB'⟩ := hB
  have hr' : i ∈ Region.ready .any ops li := by simpa using hr
  have key : ∃ v, YieldsZ P ops C0 o v a ∧ wpZL P ops C0 K (r.map (·.2)) (a.put o.dst v) := by
   simp only [List.map_cons, wpZL] at h
   split at h
   ·rename_i hw
    obtain ⟨v, h1, h2⟩ := h
    exact ⟨v, .inl ⟨hw, h1⟩, h2⟩
   ·rename_i hw
    exact ⟨undef, .inr ⟨by simpa using hw, rfl⟩, h⟩
  obtain ⟨v, hy, h2⟩ := key
  rw [List.length_cons, show r.length + 1 + f = (r.length + f) + 1 by omega]
  exact wpZ_first hi (Region.noSelect_spec hs) hQ _ li a w hD (freeZ_spec hi hmem hf) hr' hy (fun _ => hw)
   (wpZ_pre hs hQ hw r _ _ (fun p hp => hx p (.tail _ hp)) (hD.set hr') hB' h2 hK)
def NoPanic (Q : Exit → Act → World → Prop) : Exit → Act → World → Prop := fun e a w => match e with
 | .panic _ => False
 | e => Q e a w
theorem wpOp_np {i : Nat} {K : Act → World → Prop} {a : Act} {w : World} (h : wpOp P ops (NoPanic Q) i K a w) : wpOp P ops Q i K a w := by
 have hp : ∀ e a w, e ≠ .normal → NoPanic Q e a w → Q e a w := fun e a w _ h => by
  cases e <;> first | exact h | exact h.elim
 unfold wpOp at *
 split
 ·rename_i ho; simp only [ho] at h; exact h
 ·rename_i o ho
  simp only [ho] at h
  split
  ·rename_i hw
   rw [if_pos hw] at h
   rcases h with h | ⟨h, a', w', hq⟩
   ·refine .inl ?_
    unfold Oper.wp at h ⊢
    exact upon_Q hp h
   ·exact .inr ⟨h, a', w', hq⟩
  ·rename_i hw
   rw [if_neg hw] at h
   exact h
theorem wpAny_np : ∀ (f : Nat) (li : Array Bool) (a : Act) (w : World), wpAny P .any ops (NoPanic Q) f li a w → wpAny P .any ops Q f li a w
 | 0, _, _, _, h => h
 | f + 1, li, a, w, h => ⟨h.1, fun i hi => wpOp_np (wpOp_mono (fun a' w' h' => wpAny_np f _ a' w' h') (h.2 i hi))⟩
end
inductive ZSplit : Nat → List Nat → List Oper → List (Nat × Oper) → List (Nat × Oper) → Prop where
 | nil {k : Nat} {tl : List Nat} : ZSplit k tl [] [] []
 | pure {k : Nat} {tl : List Nat} {o : Oper} {r : List Oper} {x y : List (Nat × Oper)} (hp : (pureB o && o.after.toList.all fun e => tl.all fun t => !Nat.beq t e.on) = true) (h : ZSplit (k + 1) tl r x y) : ZSplit k tl (o :: r) ((k, o) :: x) y
 | tail {k : Nat} {tl : List Nat} {o : Oper} {r : List Oper} {x y : List (Nat × Oper)} (h : ZSplit (k + 1) (k :: tl) r x y) : ZSplit k tl (o :: r) x ((k, o) :: y)
theorem ZSplit.spec {k : Nat} {tl : List Nat} {l : List Oper} {x y : List (Nat × Oper)} (h : ZSplit k tl l x y) : (∀ p ∈ x, k ≤ p.1 ∧ l[p.1 - k]? = some p.2 ∧ pureB p.2 = true) ∧ (∀ p ∈ y, k ≤ p.1 ∧ l[p.1 - k]? = some p.2) ∧ x.length + y.length = l.length := by
 induction h with
 | nil => simp
 | @pure k tl o r x y hp h ih =>
  simp only [Bool.and_eq_true] at hp
  refine ⟨fun p hpm => ?_, fun p hpm => ?_, by simp only [List.length_cons]; omega⟩
  ·rcases List.mem_cons.1 hpm with rfl | hpm
   ·exact ⟨Nat.le_refl _, by simp, hp.1⟩
   ·obtain ⟨h1, h2, h3⟩ := ih.1 p hpm
    exact ⟨by omega, by rw [show p.1 - k = (p.1 - (k + 1)) + 1 by omega, List.getElem?_cons_succ]; exact h2, h3⟩
  ·obtain ⟨h1, h2⟩ := ih.2.1 p hpm
   exact ⟨by omega, by rw [show p.1 - k = (p.1 - (k + 1)) + 1 by omega, List.getElem?_cons_succ]; exact h2⟩
 | @tail k tl o r x y h ih =>
  refine ⟨fun p hpm => ?_, fun p hpm => ?_, by simp only [List.length_cons]; omega⟩
  ·obtain ⟨h1, h2, h3⟩ := ih.1 p hpm
   exact ⟨by omega, by rw [show p.1 - k = (p.1 - (k + 1)) + 1 by omega, List.getElem?_cons_succ]; exact h2, h3⟩
  ·rcases List.mem_cons.1 hpm with rfl | hpm
   ·exact ⟨Nat.le_refl _, by simp⟩
   ·obtain ⟨h1, h2⟩ := ih.2.1 p hpm
    exact ⟨by omega, by rw [show p.1 - k = (p.1 - (k + 1)) + 1 by omega, List.getElem?_cons_succ]; exact h2⟩
structure ZL (P : Program) (n : Nat) (ops : Array Oper) (C0 : World → Prop) (K : Act → Prop) (rest : List (Nat × Oper)) (l : Env) : Prop where
 run : ∀ a, Sees n l a → wpZL P ops C0 K (rest.map (·.2)) a
structure TL (P : Program) (n : Nat) (ops : Array Oper) (C0 : World → Prop) (need : Nat → Bool) (Q : Exit → Act → World → Prop) (y : List (Nat × Oper)) (l : Env) (C : World → Prop) : Prop where
 run : ∀ a w, Sees n l a → C w → wpT P ops C0 need Q y a w
def TQ (P : Program) (ops : Array Oper) (C0 : World → Prop) (need : Nat → Bool) (k : Nat) (r : List (Nat × Oper)) (Q : Exit → Act → World → Prop) : Exit → Act → World → Prop := fun e a w => match e with
 | .normal => (need k = true → C0 w) ∧ wpT P ops C0 need Q r a w
 | e => Q e a w
def zB (ops : Array Oper) (xi yi : List Nat) : Bool := Region.noSelect ops && (preZ ops xi (Array.replicate ops.size false) && seqZ ops yi (runZ xi (Array.replicate ops.size false)))
section
variable {P : Program} {n : Nat} {l : Env} {C C0 : World → Prop} {ops : Array Oper} {Q : Exit → Act → World → Prop} {K : Act → Prop} {o : Oper} {k : Nat} {x y r : List (Nat × Oper)} {need : Nat → Bool}
theorem W.regz {id : Nat} {l0 : List Oper} (hs : ZSplit 0 [] l0 x y) (hm : P.follows .mixedOrders = true) (hB : zB l0.toArray (x.map (·.1)) (y.map (·.1)) = true) (hC : ∀ w, C w → C { w with drawn := w.drawn + 1 })
  (h : ZL P n l0.toArray C (fun a' => ∀ w', C w' → wpT P l0.toArray C (needZ l0.toArray (x.map (·.1))) (NoPanic Q) y a' w') x l) : W P n (.region id l0.toArray true) Q l C := ⟨fun a w hs' hc => by
 simp only [zB, Bool.and_eq_true] at hB
 obtain ⟨h1, h2, h3⟩ := hB
 obtain ⟨hx, hy, hlen⟩ := hs.spec
 refine wp_region_any hm (wpAny_np _ _ _ _ (wpAny_of_Z (C0 := C) (need := needZ l0.toArray (x.map (·.1))) _ _ _ _ ?_))
 have key := wpZ_pre (P := P) (ops := l0.toArray) (C0 := C) (Q := NoPanic Q) (xi0 := x.map (·.1)) (f := y.length) (w := { w with drawn := w.drawn + 1 }) h1 (fun _ _ _ h => h) (hC w hc) x (Array.replicate l0.toArray.size false) a
  (fun p hp => ⟨List.mem_map.2 ⟨p, hp, rfl⟩, by have := (hx p hp).2.1; simpa using this⟩) (fun j o _ hj => by rw [getD_rep] at hj; cases hj) h2 (h.run a hs')
  (fun a' hK => wpZ_seq y _ a' _ h3 (hK _ (hC w hc)))
 have e : x.length + y.length = l0.toArray.size := by simpa using hlen
 exact (congrArg (fun s => wpZ P l0.toArray C (needZ l0.toArray (x.map (·.1))) (NoPanic Q) s (Array.replicate l0.toArray.size false) a { w with drawn := w.drawn + 1 }) e).mp key⟩
theorem ZL.nil (h : TL P n ops C0 need Q y l C0) : ZL P n ops C0 (fun a' => ∀ w', C0 w' → wpT P ops C0 need Q y a' w') [] l := ⟨fun a hs w hc => h.run a w hs hc⟩
theorem ZL.step {d : Nat} {c : Bool} {v : Value} (hp : pureB o = true) (hg : Guard l ops o.guard c) (hd : o.dst = some d) (hn : Nat.ble (d + 1) n = true) (hv : Pev P n l (fun w => depB o = true → C0 w) o c v)
  (kk : ZL P n ops C0 K r ((d, c, v) :: l)) : ZL P n ops C0 K ((k, o) :: r) l := by
 have hn' := Nat.le_of_ble_eq_true hn
 refine ⟨fun a hs => ?_⟩
 show wpZL P ops C0 K (o :: r.map (·.2)) a
 unfold wpZL
 rw [hg.wanted hs]
 cases c with
 | true => exact ⟨v, fun w hw => still_of hp (hv.run rfl a w hs hw), by rw [hd]; exact kk.run _ (hs.put hn' true v)⟩
 | false => rw [hd]; exact kk.run _ (hs.put hn' false v)
theorem ZL.op {d : Nat} {c : Bool} {v : Value} (hb : (pureB o && !depB o) = true) (hg : Guard l ops o.guard c) (hd : o.dst = some d) (hn : Nat.ble (d + 1) n = true) (hv : Pev P n l (fun _ => True) o c v)
  (kk : ZL P n ops C0 K r ((d, c, v) :: l)) : ZL P n ops C0 K ((k, o) :: r) l := by
 simp only [Bool.and_eq_true, Bool.not_eq_true'] at hb
 exact ZL.step hb.1 hg hd hn ⟨fun hc a w hs hw => by
  have := hv.run hc a w hs trivial
  rw [still_of hb.1 this]; exact ⟨rfl, rfl⟩⟩ kk
theorem ZL.ld {d : Nat} {c : Bool} {v : Value} (hb : (pureB o && depB o) = true) (hg : Guard l ops o.guard c) (hd : o.dst = some d) (hn : Nat.ble (d + 1) n = true) (hv : Pev P n l C0 o c v)
  (kk : ZL P n ops C0 K r ((d, c, v) :: l)) : ZL P n ops C0 K ((k, o) :: r) l := by
 simp only [Bool.and_eq_true] at hb
 exact ZL.step hb.1 hg hd hn ⟨fun hc a w hs hw => by
  have := hv.run hc a w hs (hw hb.2)
  rw [still_of hb.1 this]; exact ⟨rfl, rfl⟩⟩ kk
theorem TL.nil (h : At n Q .normal l C) : TL P n ops C0 need Q [] l C := ⟨fun a w hs hc => h.run a w hs hc⟩
theorem TL.one (hi : ops[k]? = some o) (h : OL P n ops (TQ P ops C0 need k r Q) [o] l C) : TL P n ops C0 need Q ((k, o) :: r) l C := ⟨fun a w hs hc => by
 have hp : ∀ ex a w, ex ≠ .normal → TQ P ops C0 need k r Q ex a w → Q ex a w := fun ex a w hne h => by
  cases ex <;> first | exact h | exact absurd rfl hne
 have h := h.run a w hs hc
 show wpOp P ops Q k _ a w
 unfold wpOp
 simp only [hi]
 unfold wpList at h
 split
 ·rename_i hw
  rw [if_pos hw] at h
  rcases h with h | ⟨h, a', w', hq⟩
  ·refine .inl ?_
   unfold Oper.wp at h ⊢
   exact upon_Q hp h
  ·exact .inr ⟨h, a', w', hp _ _ _ (by simp) hq⟩
 ·rename_i hw
  rw [if_neg hw] at h
  exact h⟩
theorem At.tn (hk : need k = false) (h : TL P n ops C0 need Q r l C) : At n (TQ P ops C0 need k r Q) .normal l C := ⟨fun a w hs hc => ⟨fun h' => (by rw [hk] at h'; cases h'), h.run a w hs hc⟩⟩
theorem At.tk (hk : ∀ w, C w → C0 w) (h : TL P n ops C0 need Q r l C) : At n (TQ P ops C0 need k r Q) .normal l C := ⟨fun a w hs hc => ⟨fun _ => hk w hc, h.run a w hs hc⟩⟩
theorem At.np (h : At n Q .normal l C) : At n (NoPanic Q) .normal l C := ⟨h.run⟩
end
/-! a guard that is known, among the quiet operations -/
section
variable {P : Program} {n : Nat} {l : Env} {C : World → Prop} {c : Bool} {d : Option Nat} {op : Op} {ty : TypeId} {pos : String} {af : Array Edge} {g : Option (Nat × Bool)} {ops : Array Oper} {K : Act → Prop} {rest : List Oper}
theorem QL.gateOff {dd : Nat} (hg : Guard l ops g c) (hc : c = false) (hn : Nat.ble (dd + 1) n = true) (h : QL P n ops C K rest ((dd, false, undef) :: l)) : QL P n ops C K (⟨some dd, op, ty, pos, af, g⟩ :: rest) l := by
 have hn' := Nat.le_of_ble_eq_true hn
 refine ⟨fun a hs => ?_⟩
 unfold wpQuiet
 rw [hg.wanted hs]
 subst hc
 exact h.run _ (hs.put hn' false undef)
end
end Go.Eng

/- A region that draws its order: quiet operations, one that makes memory, and then others one behind another. General. No condition. -/
namespace Go.Eng
open Go.RowKit
section
variable {P : Program} {ops : Array Oper} {F : Option Nat → World → Prop} {Q : Exit → Act → World → Prop} {m d : Nat} {oa : Oper} {val : Nat → Value}
def Mk (P : Program) (ops : Array Oper) (F : Option Nat → World → Prop) (oa : Oper) (val : Nat → Value) (a : Act) : Prop :=
 Region.wanted oa (yielded ops a.tmps) = true ∧ ∀ w, F none w → ∃ b w', (execOp a.eval oa).run P w = .ok (.value (val b)) w' ∧ F (some b) w'
def wpV (P : Program) (ops : Array Oper) (F : Option Nat → World → Prop) (Q : Exit → Act → World → Prop) (m d : Nat) (oa : Oper) (val : Nat → Value) : Nat → Array Bool → Option Nat → Act → Prop
 | 0, listed, o, a => allB (m + 1) listed = true ∧ ∀ w, F o w → wpAny P .any ops Q 0 listed a w
 | f + 1, listed, o, a => (allB (m + 1) listed = true → ∀ w, F o w → wpAny P .any ops Q (f + 1) listed a w) ∧
   (allB (m + 1) listed = false → Region.ready .any ops listed ≠ [] ∧ ∀ i ∈ Region.ready .any ops listed,
    (i = m → o = none ∧ Mk P ops F oa val a ∧ ∀ b, wpV P ops F Q m d oa val f (listed.setIfInBounds m true) (some b) (a.put (some d) (val b))) ∧
    (i ≠ m → qOp P ops (F o) i (wpV P ops F Q m d oa val f (listed.setIfInBounds i true) o) a))
theorem wpV_all {f : Nat} {listed : Array Bool} {o : Option Nat} {a : Act} (ht : allB (m + 1) listed = true) (h : ∀ w, F o w → wpAny P .any ops Q f listed a w) : wpV P ops F Q m d oa val f listed o a := by
 cases f with
 | zero => exact ⟨ht, h⟩
 | succ f => exact ⟨fun _ => h, fun h0 => by rw [ht] at h0; cases h0⟩
theorem wpAny_of_V (hm : ops[m]? = some oa) (hd : oa.dst = some d) : ∀ (f : Nat) (listed : Array Bool) (o : Option Nat) (a : Act) (w : World), F o w → wpV P ops F Q m d oa val f listed o a → wpAny P .any ops Q f listed a w
 | 0, _, _, _, w, hw, h => h.2 w hw
 | f + 1, listed, o, a, w, hw, h => by
  cases ht : allB (m + 1) listed with
  | true => exact h.1 ht w hw
  | false =>
   refine ⟨fun h0 => absurd h0 (h.2 ht).1, fun i hi => ?_⟩
   obtain ⟨h1, h2⟩ := (h.2 ht).2 i hi
   by_cases him : i = m
   ·obtain ⟨ho, hmk, h3⟩ := h1 him
    rw [ho] at hw
    obtain ⟨b, w', hr, hF⟩ := hmk.2 w hw
    rw [him]
    unfold wpOp
    simp only [hm, hmk.1, if_true]
    refine .inl ?_
    show Oper.upon P oa a _ Q ((execOp a.eval oa).run P w)
    rw [hr]
    show wpAny P .any ops Q f _ (a.put oa.dst (val b)) w'
    rw [hd]
    exact wpAny_of_V hm hd f _ _ _ w' hF (h3 b)
   ·exact wpOp_of_qOp hw (fun a' w' hw' => wpAny_of_V hm hd f _ _ a' w' hw') (h2 him)
theorem qOp_put' {C : World → Prop} {j : Nat} {oi oj : Oper} {v : Value} (hj : ops[j]? = some oj) (hap : oi.apart ops oj = true)
  (hsj : ∀ cs b, oj.op ≠ .select cs b) {K Y : Act → Prop} {a : Act} (keep : ∀ u, Y (a.put oj.dst u)) (h : qOp P ops C j K (a.put oi.dst v)) :
  qOp P ops C j (fun a' => Y a' ∧ K (a'.put oi.dst v)) a := by
 obtain ⟨h1, h2, h3⟩ := Oper.apart_spec hap
 unfold qOp at *
 simp only [hj] at *
 rw [wanted_put oj a oi.dst v h1] at h
 split
 ·rename_i hw
  simp only [hw, if_true] at h
  obtain ⟨u, hu, hn⟩ := h
  refine ⟨u, fun w hw' => ?_, keep u, by rw [← Act.put_comm a v u h2]; exact hn⟩
  have := hu w hw'
  unfold Oper.quietAt at *
  rwa [execOp_put oj hsj a oi.dst v h1] at this
 ·rename_i hw
  simp only [hw] at h
  exact ⟨keep _, by rw [← Act.put_comm a v undef h2]; exact h⟩
theorem wpV_first {i : Nat} {oi : Oper} {v : Value} (hi : ops[i]? = some oi) (him : i < m) (hwait : waitB ops (m + 1) = true) (hsel : ∀ (j : Nat) (o : Oper) cs b, ops[j]? = some o → o.op ≠ .select cs b) (hoa : ops[m]? = some oa) (hda : oa.dst = some d) :
  ∀ (fuel : Nat) (listed : Array Bool) (o : Option Nat) (a : Act),
   Dn ops listed → (∀ j oj, ops[j]? = some oj → j ≠ i → listed.getD j true = false → (∀ e ∈ oj.after, Region.binds .any e = true → e.on ≠ i) → oi.apart ops oj = true) →
   i ∈ Region.ready .any ops listed → (∀ o', YieldsIn P ops (F o') oi v a) →
   wpV P ops F Q m d oa val fuel (listed.setIfInBounds i true) o (a.put oi.dst v) → wpV P ops F Q m d oa val (fuel + 1) listed o a := by
 intro fuel
 induction fuel with
 | zero =>
  intro listed o a hD _ hr hy H
  have hT := allB_no (m := m + 1) (by omega : i < m + 1) (mem_ready.1 hr).1
  refine ⟨fun h => (by rw [hT] at h; cases h), fun _ => ⟨fun h => (by rw [h] at hr; cases hr), fun j hj => ?_⟩⟩
  by_cases hji : j = i
  ·subst hji; exact ⟨fun e => by omega, fun _ => (hy o).qOp hi H⟩
  ·exfalso
   obtain ⟨hjun, oj, hoj, hall⟩ := mem_ready.1 hj
   have hjm : j < m + 1 := by
    rcases Nat.lt_or_ge j (m + 1) with h | h
    ·exact h
    ·have h1 := waits_done hD _ j oj hoj hall (waitB_spec hwait hoj h (by omega : i < m + 1))
     rw [getD_ft (mem_ready.1 hr).1] at h1
     cases h1
   have := allB_no hjm (by rw [getD_set_ne true (Ne.symm hji)]; exact hjun : (listed.setIfInBounds i true).getD j true = false)
   rw [H.1] at this
   cases this
 | succ fuel ih =>
  intro listed o a hD hfree hr hy H
  have hT := allB_no (m := m + 1) (by omega : i < m + 1) (mem_ready.1 hr).1
  refine ⟨fun h => (by rw [hT] at h; cases h), fun _ => ⟨fun h => (by rw [h] at hr; cases hr), fun j hj => ?_⟩⟩
  by_cases hji : j = i
  ·subst hji; exact ⟨fun e => by omega, fun _ => (hy o).qOp hi H⟩
  ·obtain ⟨hjun, oj, hoj, hall⟩ := mem_ready.1 hj
   have hnot : ∀ e ∈ oj.after, Region.binds .any e = true → e.on ≠ i := fun e he hb heq => by
    have h1 := hall e he hb
    have h0 := (mem_ready.1 hr).1
    rw [heq] at h1
    rcases Nat.lt_or_ge i listed.size with h' | h'
    ·simp [h'] at h0 h1; rw [h0] at h1; cases h1
    ·simp [Array.getElem?_eq_none h'] at h1
   have hjm : j < m + 1 := by
    rcases Nat.lt_or_ge j (m + 1) with h | h
    ·exact h
    ·have h1 := waits_done hD _ j oj hoj hall (waitB_spec hwait hoj h (by omega : i < m + 1))
     rw [getD_ft (mem_ready.1 hr).1] at h1
     cases h1
   have hT' := allB_no hjm (by rw [getD_set_ne true (Ne.symm hji)]; exact hjun : (listed.setIfInBounds i true).getD j true = false)
   have h1 := (H.2 hT').2 j (ready_mono hj hji)
   have hap := hfree j oj hoj hji hjun hnot
   obtain ⟨g1, g2, g3⟩ := Oper.apart_spec hap
   have keep : ∀ u, ∀ o', YieldsIn P ops (F o') oi v (a.put oj.dst u) := fun u o' =>
    (hy o').of_same (execOp_put oi (fun cs b => hsel i oi cs b hi) a oj.dst u g3) (wanted_put oi a oj.dst u g3)
   have hfree' : ∀ k ok, ops[k]? = some ok → k ≠ i → (listed.setIfInBounds j true).getD k true = false →
     (∀ e ∈ ok.after, Region.binds .any e = true → e.on ≠ i) → oi.apart ops ok = true := fun k ok hk hki hun hno => by
    refine hfree k ok hk hki ?_ hno
    by_cases hjk : j = k
    ·subst hjk; exact hjun
    ·rw [getD_set_ne true hjk] at hun; exact hun
   refine ⟨fun e => ?_, fun hne => ?_⟩
   ·subst e
    obtain ⟨e1, e2, e3⟩ := h1.1 rfl
    rw [hoa] at hoj
    obtain rfl := Option.some.inj hoj
    refine ⟨e1, ⟨?_, fun w hw => ?_⟩, fun b => ?_⟩
    ·have := e2.1
     rwa [wanted_put oa a oi.dst v g1] at this
    ·have := e2.2 w hw
     rwa [execOp_put oa (fun cs b => hsel j oa cs b hoa) a oi.dst v g1] at this
    ·have h5 := e3 b
     refine ih (listed.setIfInBounds j true) (some b) _ (hD.set hj) hfree' (ready_mono hr (Ne.symm hji)) (fun o' => by rw [← hda]; exact keep _ o') ?_
     rw [Array.setIfInBounds_comm _ _ hji, ← hda, ← Act.put_comm a v (val b) g2, hda]
     exact h5
   ·have h2 := qOp_put' (Y := fun a' => ∀ o', YieldsIn P ops (F o') oi v a') hoj hap (fun cs b => hsel j oj cs b hoj) keep (h1.2 hne)
    refine qOp_mono (fun a' h3 => ih (listed.setIfInBounds j true) o a' (hD.set hj) hfree' (ready_mono hr (Ne.symm hji)) h3.1 ?_) h2
    rw [Array.setIfInBounds_comm _ _ hji]
    exact h3.2
theorem wpQuiet_keep {C : World → Prop} {K : Act → Prop} {t : Nat} : ∀ (l : List Oper) (a : Act), wpQuiet P ops C K l a → (∀ o ∈ l, o.dst ≠ some t) → ∃ a', K a' ∧ a'.tmps[t]? = a.tmps[t]?
 | [], a, h, _ => ⟨a, h, rfl⟩
 | o :: l, a, h, hd => by
  have hput : ∀ v, (a.put o.dst v).tmps[t]? = a.tmps[t]? := fun v => by
   have hne := hd o (.head _)
   cases ho : o.dst with
   | none => rfl
   | some e =>
    have : e ≠ t := fun x => hne (by rw [ho, x])
    show (a.tmps.setIfInBounds e v)[t]? = _
    rw [Array.getElem?_setIfInBounds_ne this]
  rw [wpQuiet] at h
  split at h
  ·obtain ⟨v, _, h2⟩ := h
   obtain ⟨a', h3, h4⟩ := wpQuiet_keep l _ h2 (fun x hx => hd x (.tail _ hx))
   exact ⟨a', h3, by rw [h4, hput]⟩
  ·obtain ⟨a', h3, h4⟩ := wpQuiet_keep l _ h (fun x hx => hd x (.tail _ hx))
   exact ⟨a', h3, by rw [h4, hput]⟩
def slotsB (n : Nat) (keys : List Nat) : List Oper → Bool
 | [] => true
 | o :: l => (match o.dst with | some t => Nat.blt t n && (keys.any (Nat.beq t) && l.all fun x => match x.dst with | some u => !(Nat.beq u t) | none => true) | none => false) && slotsB n keys l
theorem look_key : ∀ {l : Env} {t : Nat}, (l.map (·.1)).any (Nat.beq t) = true → ∃ c v, look l t = some (c, v)
 | [], t, h => by simp at h
 | (u, c, v) :: l, t, h => by
  simp only [List.map_cons, List.any_cons, Bool.or_eq_true] at h
  simp only [look]
  by_cases e : u = t
  ·subst e
   rw [Nat.beq_refl, cond_true]
   exact ⟨c, v, rfl⟩
  ·rw [show Nat.beq u t = false from by rw [Bool.eq_false_iff]; intro hb; exact e (Nat.eq_of_beq_eq_true hb), cond_false]
   refine look_key (h.resolve_left fun hb => e (Nat.eq_of_beq_eq_true hb).symm)
theorem put_size {a : Act} {x : Option Tmp} {v : Value} : (a.put x v).tmps.size = a.tmps.size := by
 cases x with
 | none => rfl
 | some t => show (a.tmps.setIfInBounds t v).size = _; rw [Array.size_setIfInBounds]
theorem one_value {n : Nat} {lK : Env} {C C' : World → Prop} {o : Oper} {l : List Oper} {a : Act} {v v' : Value} (hs : slotsB n (lK.map (·.1)) (o :: l) = true) (hn : a.tmps.size = n)
  (h : wpQuiet P ops C (fun a' => Sees n lK a') l (a.put o.dst v)) (h' : wpQuiet P ops C' (fun a' => Sees n lK a') l (a.put o.dst v')) : v = v' := by
 simp only [slotsB, Bool.and_eq_true] at hs
 cases ho : o.dst with
 | none => rw [ho] at hs; simp at hs
 | some t =>
  rw [ho] at hs h h'
  simp only [Bool.and_eq_true] at hs
  obtain ⟨⟨h1, h2, h3⟩, _⟩ := hs
  have htn : t < n := Nat.le_of_ble_eq_true h1
  obtain ⟨c, u, hl⟩ := look_key h2
  have hno : ∀ x ∈ l, x.dst ≠ some t := fun x hx hxd => by
   have := List.all_eq_true.1 h3 x hx
   rw [hxd] at this
   simp [Nat.beq_refl] at this
  have key : ∀ (C : World → Prop) (v : Value), wpQuiet P ops C (fun a' => Sees n lK a') l (a.put (some t) v) → v = bif c then u else undef := fun C v h => by
   obtain ⟨a', h4, h5⟩ := wpQuiet_keep l _ h hno
   have h6 := h4.at_ t c u hl
   have h7 : (a.put (some t) v).tmps[t]? = some v := by
    show (a.tmps.setIfInBounds t v)[t]? = some v
    rw [Array.getElem?_setIfInBounds_self, if_pos (by rw [hn]; exact htn)]
   rw [h5, h7] at h6
   exact Option.some.inj h6
  rw [key C v h, key C' v' h']
theorem wpV_lex {n : Nat} {lK : Env} (hsl : Region.noSelect ops = true) (hwait : waitB ops (m + 1) = true) (hoa : ops[m]? = some oa) (hda : oa.dst = some d) {f : Nat} : ∀ (l : List Oper) (k : Nat) (li : Array Bool) (a : Act), a.tmps.size = n → Dn ops li → k + l.length = m → (∀ j, j < l.length → l[j]? = ops[k + j]?) →
  preB ops l.length k li = true → slotsB n (lK.map (·.1)) l = true → (Region.ready .any ops (runL l.length k li) = [m]) → (allB (m + 1) ((runL l.length k li).setIfInBounds m true) = true) → (∀ o, wpQuiet P ops (F o) (fun a' => Sees n lK a') l a) →
  (∀ a, Sees n lK a → Mk P ops F oa val a ∧ ∀ b w, F (some b) w → wpAny P .any ops Q f ((runL l.length k li).setIfInBounds m true) (a.put (some d) (val b)) w) → wpV P ops F Q m d oa val (l.length + 1 + f) li none a
 | [], k, li, a, _, _, _, _, _, _, hr, hA, h, hK => by
  obtain ⟨h1, h2⟩ := hK a (h none)
  rw [List.length_nil, show 0 + 1 + f = f + 1 by omega]
  have hm : m ∈ Region.ready .any ops li := by
   have hr' : Region.ready .any ops li = [m] := hr
   rw [hr']; exact .head _
  have hT := allB_no (m := m + 1) (by omega : m < m + 1) (mem_ready.1 hm).1
  refine ⟨fun h => (by rw [hT] at h; cases h), fun _ => ⟨fun h => (by rw [h] at hm; cases hm), fun i hi => ⟨fun _ => ⟨rfl, h1, fun b => wpV_all hA (h2 b)⟩, fun hne => ?_⟩⟩⟩
  have hr' : Region.ready .any ops li = [m] := hr
  rw [hr'] at hi
  exact absurd (List.mem_singleton.1 hi) hne
 | o :: l, k, li, a, hn, hD, hk, hl, hB, hS, hr, hA, h, hK => by
  have h0 : ops[k]? = some o := by simpa using (hl 0 (by simp)).symm
  simp only [List.length_cons, preB, Bool.and_eq_true] at hB
  obtain ⟨⟨hr1, hf⟩, hB'⟩ := hB
  have hst : ∀ o', ∃ v, YieldsIn P ops (F o') o v a ∧ wpQuiet P ops (F o') (fun a' => Sees n lK a') l (a.put o.dst v) := fun o' => yieldsIn_of_qOp h0 (by unfold qOp; simp only [h0]; exact h o')
  obtain ⟨v, _, hv2⟩ := hst none
  have hall : ∀ o', YieldsIn P ops (F o') o v a ∧ wpQuiet P ops (F o') (fun a' => Sees n lK a') l (a.put o.dst v) := fun o' => by
   obtain ⟨v', g1, g2⟩ := hst o'
   obtain rfl := one_value hS hn hv2 g2
   exact ⟨g1, g2⟩
  have hS' : slotsB n (lK.map (·.1)) l = true := by
   simp only [slotsB, Bool.and_eq_true] at hS
   exact hS.2
  rw [List.length_cons, show l.length + 1 + 1 + f = (l.length + 1 + f) + 1 by omega]
  simp only [List.length_cons] at hk
  exact wpV_first h0 (by omega) hwait (Region.noSelect_spec hsl) hoa hda _ li none a hD (Region.free_spec h0 hf) (by simpa using hr1) (fun o' => (hall o').1)
   (wpV_lex hsl hwait hoa hda l (k + 1) _ _ (by rw [put_size]; exact hn) (hD.set (by simpa using hr1)) (by omega) (fun j hj => by have := hl (j + 1) (by simp only [List.length_cons]; omega); simpa [Nat.add_assoc, Nat.add_comm 1 j] using this) hB' hS' hr hA (fun o' => (hall o').2) hK)
def mkB (ops : Array Oper) (m t : Nat) : Bool := Region.noSelect ops && (waitB ops (m + 1) && (preB ops m 0 (Array.replicate ops.size false) && (allB (m + 1) ((runL m 0 (Array.replicate ops.size false)).setIfInBounds m true) && (seqB ops (t + 1) m (runL m 0 (Array.replicate ops.size false)) && Nat.beq (m + 1 + t) ops.size))))
end
section
variable {P : Program} {n : Nat} {l : Env} {Q : Exit → Act → World → Prop} {H : List Item} {S : List World}
theorem W.regv {F : Option Nat → World → Prop} {lK : Env} {d : Nat} {val : Nat → Value} (k : Nat) {id : Nat} {l0 x y : List Oper} {oa : Oper} {C : World → Prop} (hs : SplitN k l0 x (oa :: y)) (hm : P.follows .mixedOrders = true) (hB : mkB (x ++ oa :: y).toArray x.length y.length = true) (hC : ∀ w, C w → F none { w with drawn := w.drawn + 1 })
  (hd : oa.dst = some d) (hg : oa.guard = none) (hdn : Nat.blt d n = true)
  (hq : ∀ o, QL P n l0.toArray (F o) (fun a' => Sees n lK a') x l) (hS : slotsB n (lK.map (·.1)) x = true)
  (hv : ∀ a w, Sees n lK a → F none w → ∃ b w', (execOp a.eval oa).run P w = .ok (.value (val b)) w' ∧ F (some b) w')
  (h : ∀ b, OL P n l0.toArray Q y ((d, true, val b) :: lK) (F (some b))) : W P n (.region id l0.toArray true) Q l C := ⟨fun a w hs' hc => by
 have := hs.eq
 subst this
 simp only [mkB, Bool.and_eq_true] at hB
 obtain ⟨h1, h2, h3, h4, h5, h6⟩ := hB
 have h7 := h5
 simp only [seqB, Bool.and_eq_true, beq_iff_eq] at h7
 have hoa : (x ++ oa :: y).toArray[x.length]? = some oa := by simp
 have e : x.length + 1 + y.length = (x ++ oa :: y).toArray.size := by simp; omega
 refine wp_region_any hm (wpAny_of_V (F := F) (m := x.length) (d := d) (oa := oa) (val := val) hoa hd _ _ none _ _ (hC w hc) ?_)
 have key := wpV_lex (P := P) (F := F) (Q := Q) (val := val) (f := y.length) (lK := lK) h1 h2 hoa hd x 0 (Array.replicate (x ++ oa :: y).toArray.size false) a hs'.sz (fun j o _ hj => by rw [getD_rep] at hj; cases hj) (by omega) (fun j hj => by simp [List.getElem?_append_left hj]) h3 hS h7.1 h4 (fun o => (hq o).run a hs')
  (fun a' ha' => ⟨⟨by unfold Region.wanted; rw [hg], fun w hw => hv a' w ha' hw⟩, fun b w' hw' => wpAny_seq y (x.length + 1) _ _ w' (fun j => by simp [List.getElem?_append_right, Nat.add_assoc, Nat.add_comm 1 j]) h7.2 ((h b).run _ w' (ha'.put (Nat.le_of_ble_eq_true hdn) true (val b)) hw')⟩)
 exact (congrArg (fun s => wpV P (x ++ oa :: y).toArray F Q x.length d oa val s (Array.replicate (x ++ oa :: y).toArray.size false) none a) e).mp key⟩
theorem wpQuiet_none {P : Program} {ops : Array Oper} {C C' : World → Prop} {K : Act → Prop} (hC : ∀ w, ¬ C' w) : ∀ (l : List Oper) (a : Act), wpQuiet P ops C K l a → wpQuiet P ops C' K l a
 | [], _, h => h
 | o :: l, a, h => by
  rw [wpQuiet] at h ⊢
  split at h
  ·rename_i hw
   obtain ⟨v, _, h2⟩ := h
   rw [if_pos hw]
   exact ⟨v, fun w hw => absurd hw (hC w), wpQuiet_none hC l _ h2⟩
  ·rename_i hw
   rw [if_neg hw]
   exact wpQuiet_none hC l _ h
theorem QL.sees {ops : Array Oper} {C : World → Prop} : QL P n ops C (fun a' => Sees n l a') [] l := ⟨fun a hs => hs⟩
theorem Cls.nothing_in {w : World} (h : Cls H S w) : Cls (nothing :: H) S w := h.add (Keep.refl _ w) _ trivial (fun k hk => hk.elim)
theorem Cls.nothing_out {w : World} (h : Cls (nothing :: H) S w) : Cls H S w := h.thin (.any (fun k hk => hk.elim) Thin.same)
theorem W.rega {lK : Env} {d : Nat} {id : Nat} {l0 x y : List Oper} {e ty : TypeId} {pos : String} {af : Array Edge} {v : Value} {cs : List Value} (hs : Split l0 x (⟨some d, .alloc e, ty, pos, af, none⟩ :: y)) (hm : P.follows .mixedOrders = true) (hB : mkB (x ++ ⟨some d, .alloc e, ty, pos, af, none⟩ :: y).toArray x.length y.length = true)
  (hdn : Nat.blt d n = true) (hz : zeroV P e = some v) (hv : CellsL v cs)
  (hq : ∀ (c : Bool) (b : Nat), AllLe S b → QL P n l0.toArray (Cls ((bif c then blk b e cs else nothing) :: H) S) (fun a' => Sees n lK a') x l) (hS : slotsB n (lK.map (·.1)) x = true)
  (h : ∀ b, AllLe S b → OL P n l0.toArray Q y ((d, true, .pointer (some ⟨b, 0, none⟩)) :: lK) (Cls (blk b e cs :: H) S)) : W P n (.region id l0.toArray true) Q l (Cls H S) := by
 have hlen : SplitN x.length l0 x (⟨some d, .alloc e, ty, pos, af, none⟩ :: y) := by
  have := hs.eq
  subst this
  clear hs hB hq hS h
  induction x with
  | nil => exact .z
  | cons o x ih => exact .s ih
 by_cases hex : ∃ b, AllLe S b
 ·obtain ⟨b0, hb0⟩ := hex
  have h0 := hq false b0 hb0
  refine W.regv (F := fun o => match o with | none => Cls (nothing :: H) S | some b => fun w => AllLe S b ∧ Cls (blk b e cs :: H) S w) (val := fun b => .pointer (some ⟨b, 0, none⟩)) x.length hlen hm hB (fun w hw => hw.nothing_in.drew) rfl rfl hdn (fun o => ?_) hS (fun a w hs hc => ?_) (fun b => ⟨fun a w hs hc => (h b hc.1).run a w hs hc.2⟩)
  ·cases o with
   | none => exact h0
   | some b =>
    by_cases hb : AllLe S b
    ·have h1 := hq true b hb
     have e1 : (fun w => AllLe S b ∧ Cls (blk b e cs :: H) S w) = Cls (blk b e cs :: H) S := by
      funext w
      exact propext ⟨fun h => h.2, fun h => ⟨hb, h⟩⟩
     show QL P n l0.toArray (fun w => AllLe S b ∧ Cls (blk b e cs :: H) S w) _ x l
     rw [e1]
     exact h1
    ·exact ⟨fun a hs => wpQuiet_none (fun w hw => hb hw.1) x a (h0.run a hs)⟩
  ·have hc' := Cls.nothing_out hc
   exact ⟨w.heap.size, w.alloc (.cells v.cells e), by simp only [execOp, Instr.alloc, Sem.run_bind, run_zeroV hz, Result.andThen_ok]; rfl, AllLe.mk hc', by rw [hv.eq]; exact hc'.alloc e cs⟩
 ·refine ⟨fun a w hs hc => absurd ⟨w.heap.size, AllLe.mk hc⟩ hex⟩
end
end Go.Eng

/- Plain: what the depth-first search marks and gives out. No program in sight. No condition. -/
namespace Go.Ss
structure VT (G : List (List Int)) (s t : VS) : Prop where
 le : VLe s t
 nw : ∃ r, t.2 = s.2 ++ r ∧ r.Nodup ∧ ∀ v : Int, v ∈ r ↔ ∃ k : Nat, v = (k : Int) ∧ s.1[k]? = some false ∧ t.1[k]? = some true
 cl : ∀ a b : Nat, s.1[a]? = some false → t.1[a]? = some true → Edge G a b → b < G.length → t.1[b]? = some true
 sd : ∀ a : Nat, s.1[a]? = some false → t.1[a]? = some true → Rc G (-1) a
theorem VT.refl (G : List (List Int)) (s : VS) : VT G s s where
 le := .refl s
 nw := ⟨[], by simp, by simp, fun v => ⟨fun h => (by cases h), fun ⟨k, _, h1, h2⟩ => (by rw [h1] at h2; cases h2)⟩⟩
 cl := fun a b h1 h2 => by rw [h1] at h2; cases h2
 sd := fun a h1 h2 => by rw [h1] at h2; cases h2
theorem mark_cases {s : VS} {t : VS} (h : VLe s t) {k : Nat} {b : Bool} (hk : s.1[k]? = some b) : t.1[k]? = some false ∨ t.1[k]? = some true := by
 have h1 := (List.getElem?_eq_some_iff.1 hk).1
 have h2 : k < t.1.length := by rw [h.len]; exact h1
 rw [List.getElem?_eq_getElem h2]
 cases t.1[k] <;> simp
theorem VT.trans {G : List (List Int)} {s t u : VS} (h : VT G s t) (h' : VT G t u) : VT G s u where
 le := h.le.trans h'.le
 nw := by
  obtain ⟨r, h1, h2, h3⟩ := h.nw
  obtain ⟨r', h4, h5, h6⟩ := h'.nw
  refine ⟨r ++ r', by rw [h4, h1, List.append_assoc], ?_, fun v => ?_⟩
  ·rw [List.nodup_append]
   refine ⟨h2, h5, fun a ha b hb => ?_⟩
   rintro rfl
   obtain ⟨k, rfl, _, h7⟩ := (h3 _).1 ha
   obtain ⟨k', e, h8, _⟩ := (h6 _).1 hb
   have : k = k' := by omega
   subst this
   rw [h7] at h8
   cases h8
  ·rw [List.mem_append, h3, h6]
   constructor
   ·rintro (⟨k, e, h7, h8⟩ | ⟨k, e, h7, h8⟩)
    ·exact ⟨k, e, h7, h'.le.le k h8⟩
    ·refine ⟨k, e, ?_, h8⟩
     have hl := (List.getElem?_eq_some_iff.1 h7).1
     rw [h.le.len] at hl
     have h9 := List.getElem?_eq_getElem hl
     cases hb : s.1[k] with
     | false => rw [h9, hb]
     | true =>
      rw [hb] at h9
      rw [h.le.le k h9] at h7
      cases h7
   ·rintro ⟨k, e, h7, h8⟩
    rcases mark_cases h.le h7 with h9 | h9
    ·exact .inr ⟨k, e, h9, h8⟩
    ·exact .inl ⟨k, e, h7, h9⟩
 cl := fun a b h1 h2 he hb => by
  rcases mark_cases h.le h1 with h9 | h9
  ·exact h'.cl a b h9 h2 he hb
  ·exact h'.le.le b (h.cl a b h1 h9 he hb)
 sd := fun a h1 h2 => by
  rcases mark_cases h.le h1 with h9 | h9
  ·exact h'.sd a h9 h2
  ·exact h.sd a h1 h9
end Go.Ss







/- The walks of ssa's operations on words and on finished values. Conditions: none. -/
namespace Go.Ss
open Go.Eng Go.RowKit
theorem and_low (x : Int) : bits .and .i64 x 2147483647 = x % 2147483648 := by
 have h1 : (BitVec.ofInt 64 2147483647).toNat = 2 ^ 31 - 1 := by decide
 have h2 : (BitVec.ofInt 64 x).toNat = (x % 18446744073709551616).toNat := by
  rw [BitVec.toNat_ofInt]; rfl
 show IntKind.i64.wrap ((BitVec.ofInt 64 x &&& BitVec.ofInt 64 2147483647).toNat : Int) = _
 rw [BitVec.toNat_and, h1, Nat.and_two_pow_sub_one_eq_mod, h2, IntKind.wrap_i64]
 omega
theorem wrap_wd (n : Int) : IntKind.i64.wrap (bits .and .i64 (IntKind.i64.wrap (n + 1073741824)) 2147483647 - 1073741824) = wd n := by
 rw [and_low]; simp only [IntKind.wrap_i64]; unfold wd; omega
theorem wd_wrap (n : Int) : wd (IntKind.i64.wrap n) = wd n := by simp only [IntKind.wrap_i64]; unfold wd; omega
theorem wd_mul (a b : Int) : wd (wd a * wd b) = wd (a * b) := by
 have h1 : wd a % 2147483648 = a % 2147483648 := by unfold wd; omega
 have h2 : wd b % 2147483648 = b % 2147483648 := by unfold wd; omega
 have h3 : (wd a * wd b) % 2147483648 = (a * b) % 2147483648 := by rw [Int.mul_emod, h1, h2, ← Int.mul_emod]
 unfold wd at h3 ⊢
 omega
theorem wd_id {n : Int} (h : -1073741824 ≤ n ∧ n ≤ 1073741823) : wd n = n := by unfold wd; omega
theorem tdiv_bd {a b : Int} (ha : -1073741824 ≤ a ∧ a ≤ 1073741823) : -1073741824 ≤ a.tdiv b ∧ a.tdiv b ≤ 1073741824 := by
 have h1 : (a.tdiv b).natAbs ≤ a.natAbs := by rw [Int.natAbs_tdiv]; exact Nat.div_le_self _ _
 omega
end Go.Ss
namespace Go.Proofs.Ytehelljmaiophaa.ss
set_option maxRecDepth 100000
open Go.Eng Go.RowKit Go.Ss
theorem wrap_calls (n : Int) (w : World) : Calls Try.prog 187 [.int .i64 n].toArray w fun e w' => e = .returned (.int .i64 (wd n)) ∧ Ext w w' := by
 refine enter Try.func187 rfl Try.ntmps187 rfl (Cls.start w) (zen ?_)
 refine zgs ?_
 (refine zfn ?_; intro w' hw')
 exact ⟨by rw [wrap_wd], by (exact hw'.fr)⟩
theorem add_calls (a b : Int) (w : World) : Calls Try.prog 179 [.int .i64 a, .int .i64 b].toArray w fun e w' => e = .returned (.int .i64 (wd (a + b))) ∧ Ext w w' := by
 refine enter Try.func179 rfl Try.ntmps179 rfl (Cls.start w) (zen ?_)
 refine zgs ?_
 (((first | apply OL.op | apply QL.op); exact Guard.au; rfl; rfl); (exact Pev.call rfl (by exact Args.au) (fun _ w2 hw2 => (wrap_calls _ w2).mono (fun e w3 h => ⟨h.1, hw2.ext h.2⟩))))
 refine zgs ?_
 (refine zfn ?_; intro w' hw')
 exact ⟨by rw [wd_wrap], by (exact hw'.fr)⟩
theorem sub_calls (a b : Int) (w : World) : Calls Try.prog 180 [.int .i64 a, .int .i64 b].toArray w fun e w' => e = .returned (.int .i64 (wd (a - b))) ∧ Ext w w' := by
 refine enter Try.func180 rfl Try.ntmps180 rfl (Cls.start w) (zen ?_)
 refine zgs ?_
 (((first | apply OL.op | apply QL.op); exact Guard.au; rfl; rfl); (exact Pev.call rfl (by exact Args.au) (fun _ w2 hw2 => (wrap_calls _ w2).mono (fun e w3 h => ⟨h.1, hw2.ext h.2⟩))))
 refine zgs ?_
 (refine zfn ?_; intro w' hw')
 exact ⟨by rw [wd_wrap], by (exact hw'.fr)⟩
theorem mul_calls (a b : Int) (w : World) : Calls Try.prog 181 [.int .i64 a, .int .i64 b].toArray w fun e w' => e = .returned (.int .i64 (wd (a * b))) ∧ Ext w w' := by
 refine enter Try.func181 rfl Try.ntmps181 rfl (Cls.start w) (zen ?_)
 refine zgs ?_
 (((first | apply OL.op | apply QL.op); exact Guard.au; rfl; rfl); (exact Pev.call rfl (by exact Args.au) (fun _ w2 hw2 => (wrap_calls _ w2).mono (fun e w3 h => ⟨h.1, hw2.ext h.2⟩))))
 refine zgs ?_
 (((first | apply OL.op | apply QL.op); exact Guard.au; rfl; rfl); (exact Pev.call rfl (by exact Args.au) (fun _ w2 hw2 => (wrap_calls _ w2).mono (fun e w3 h => ⟨h.1, hw2.ext h.2⟩))))
 refine zgs ?_
 (((first | apply OL.op | apply QL.op); exact Guard.au; rfl; rfl); (exact Pev.call rfl (by exact Args.au) (fun _ w2 hw2 => (wrap_calls _ w2).mono (fun e w3 h => ⟨h.1, hw2.ext h.2⟩))))
 refine zgs ?_
 (refine zfn ?_; intro w' hw')
 exact ⟨by rw [wd_wrap, wd_mul], by (exact hw'.fr)⟩
theorem div_calls (a b : Int) (ha : -1073741824 ≤ a ∧ a ≤ 1073741823) (hb : -1073741824 ≤ b ∧ b ≤ 1073741823) (h0 : b ≠ 0) (w : World) : Calls Try.prog 183 [.int .i64 a, .int .i64 b].toArray w fun e w' => e = .returned (.tuple #[.int .i64 (wd (a.tdiv b)), .int .i64 0]) ∧ Ext w w' := by
 have e1 := wd_id ha
 have e2 := wd_id hb
 have hq := tdiv_bd (b := b) ha
 refine enter Try.func183 rfl Try.ntmps183 rfl (Cls.start w) (zen ?_)
 refine zgs ?_
 (((first | apply OL.op | apply QL.op); exact Guard.au; rfl; rfl); (exact Pev.call (v := .int .i64 b) rfl (by exact Args.au) (fun _ w2 hw2 => (wrap_calls b w2).mono (fun e w3 h => ⟨by rw [h.1, e2], hw2.ext h.2⟩))))
 refine zgs ?_
 refine W.cond rfl (fun h => by simp at h; exact absurd h h0) (fun _ => ?_)
 refine zgs ?_
 (((first | apply OL.op | apply QL.op); exact Guard.au; rfl; rfl); (exact Pev.call (v := .int .i64 a) rfl (by exact Args.au) (fun _ w2 hw2 => (wrap_calls a w2).mono (fun e w3 h => ⟨by rw [h.1, e1], hw2.ext h.2⟩))))
 refine zgs ?_
 (((first | apply OL.op | apply QL.op); exact Guard.au; rfl; rfl); (exact Pev.call (v := .int .i64 b) rfl (by exact Args.au) (fun _ w2 hw2 => (wrap_calls b w2).mono (fun e w3 h => ⟨by rw [h.1, e2], hw2.ext h.2⟩))))
 refine zgs ?_
 (((first | apply OL.op | apply QL.op); exact Guard.au; rfl; rfl); (exact Pev.call rfl (by exact Args.au) (fun _ w2 hw2 => (wrap_calls _ w2).mono (fun e w3 h => ⟨h.1, hw2.ext h.2⟩))))
 refine zgs ?_
 (refine zfn ?_; intro w' hw')
 exact ⟨by rw [wd_wrap], by (exact hw'.fr)⟩
theorem mod_calls (a b : Int) (ha : -1073741824 ≤ a ∧ a ≤ 1073741823) (hb : -1073741824 ≤ b ∧ b ≤ 1073741823) (h0 : b ≠ 0) (w : World) : Calls Try.prog 184 [.int .i64 a, .int .i64 b].toArray w fun e w' => e = .returned (.tuple #[.int .i64 (a.tmod b), .int .i64 0]) ∧ Ext w w' := by
 have e1 := wd_id ha
 have e2 := wd_id hb
 have hq := tm_bd ha hb h0
 refine enter Try.func184 rfl Try.ntmps184 rfl (Cls.start w) (zen ?_)
 refine zgs ?_
 (((first | apply OL.op | apply QL.op); exact Guard.au; rfl; rfl); (exact Pev.call (v := .int .i64 b) rfl (by exact Args.au) (fun _ w2 hw2 => (wrap_calls b w2).mono (fun e w3 h => ⟨by rw [h.1, e2], hw2.ext h.2⟩))))
 refine zgs ?_
 refine W.cond rfl (fun h => by simp at h; exact absurd h h0) (fun _ => ?_)
 refine zgs ?_
 (((first | apply OL.op | apply QL.op); exact Guard.au; rfl; rfl); (exact Pev.call (v := .int .i64 a) rfl (by exact Args.au) (fun _ w2 hw2 => (wrap_calls a w2).mono (fun e w3 h => ⟨by rw [h.1, e1], hw2.ext h.2⟩))))
 refine zgs ?_
 (((first | apply OL.op | apply QL.op); exact Guard.au; rfl; rfl); (exact Pev.call (v := .int .i64 b) rfl (by exact Args.au) (fun _ w2 hw2 => (wrap_calls b w2).mono (fun e w3 h => ⟨by rw [h.1, e2], hw2.ext h.2⟩))))
 refine zgs ?_
 (refine zfn ?_; intro w' hw')
 exact ⟨rfl, by (exact hw'.fr)⟩
theorem wordOf_calls (n : Int) (w : World) : Calls Try.prog 166 [.int .i64 n].toArray w fun e w' => e = .returned (.agg #[.int .i64 0, .int .i64 n, .slice none 0 0, .pointer none]) ∧ Ext w w' := by
 refine enter Try.func166 rfl Try.ntmps166 rfl (Cls.start w) (zen ?_)
 apply W.sr
 apply OL.alloc; rfl; rfl; exact CellsL.agg; (intro bk hbk; simp only [AllLe, and_true] at hbk)
 refine zgs ?_
 exact At.finC (b := bk) (cs := [.int .i64 0, .int .i64 n, .slice none 0 0, .pointer none]) rfl rfl (by exact mau) rfl rfl (fun w' hw' => ⟨rfl, hw'.toExt (by exact mau) (fun k hk => NotOwned.blk (by omega) NotOwned.nil)⟩)
theorem truth_calls (b : Bool) (w : World) : Calls Try.prog 182 [.bool b].toArray w fun e w' => e = .returned (.agg #[.int .i64 0, .int .i64 (b2i b), .slice none 0 0, .pointer none]) ∧ Ext w w' := by
 refine enter Try.func182 rfl Try.ntmps182 rfl (Cls.start w) (zen ?_)
 apply W.sr
 apply OL.alloc; rfl; rfl; exact CellsL.agg; (intro bk hbk; simp only [AllLe, and_true] at hbk)
 refine zgs ?_
 cases b with
 | true =>
  refine W.cond rfl (fun _ => ?_) (fun h => by cases h)
  apply W.sr
  (((first | apply OL.op | apply QL.op); exact Guard.au; rfl; rfl); (exact Pev.call rfl (by exact Args.au) (fun _ w2 hw2 => (wordOf_calls _ w2).mono (fun e w3 h => ⟨h.1, hw2.ext h.2⟩))))
  refine zgs ?_
  exact At.finC (b := bk) (cs := [.int .i64 0, .int .i64 1, .slice none 0 0, .pointer none]) rfl rfl (by exact mau) rfl rfl (fun w' hw' => ⟨rfl, hw'.toExt (by exact mau) (fun k hk => NotOwned.blk (by omega) NotOwned.nil)⟩)
 | false =>
  refine W.cond rfl (fun h => by cases h) (fun _ => ?_)
  refine zgs ?_
  (((first | apply OL.op | apply QL.op); exact Guard.au; rfl; rfl); (exact Pev.call rfl (by exact Args.au) (fun _ w2 hw2 => (wordOf_calls _ w2).mono (fun e w3 h => ⟨h.1, hw2.ext h.2⟩))))
  refine zgs ?_
  exact At.finC (b := bk) (cs := [.int .i64 0, .int .i64 0, .slice none 0 0, .pointer none]) rfl rfl (by exact mau) rfl rfl (fun w' hw' => ⟨rfl, hw'.toExt (by exact mau) (fun k hk => NotOwned.blk (by omega) NotOwned.nil)⟩)
theorem all_calls (vs : List PV) (q : Option Addr) (cap : Nat) (kd : Int) (w : World) (hl : vs.length ≤ 1000000) (hA : Arr (pvR pF) w (low w) (us vs) q) :
  Calls Try.prog 167 [.slice q vs.length cap, .int .i64 kd].toArray w fun e w' => e = .returned (.bool (vs.all fun p => decide (p.k = kd))) ∧ Ext w w' := by
 refine enter Try.func167 rfl Try.ntmps167 rfl (Cls.start w) (zen ?_)
 refine zgs ?_
 refine W.loop (G := Nat) (fun i => i ≤ vs.length ∧ (vs.all fun p => decide (p.k = kd)) = (vs.drop i).all fun p => decide (p.k = kd)) (fun i => vs.length - i)
  (fun i => [(1, true, .int .i64 kd), (7, true, .slice q vs.length cap), (8, true, .int .i64 (vs.length : Int)), (9, true, .int .i64 (i : Int))])
  (fun _ => Cls [] [w]) 0 ⟨by omega, rfl⟩ (by exact Sub.au) (fun w' hw' => hw') ?_
 rintro i ⟨hi, hrest⟩
 refine zgs ?_
 refine W.cnd ?_ ?_ <;> intro hlt <;> try exact zwx hlt
 ·have hil : i < vs.length := by omega
  obtain ⟨p, hp⟩ : ∃ p, vs[i]? = some p := ⟨_, List.getElem?_eq_getElem hil⟩
  obtain ⟨a, hqa, hab, hcell, hok⟩ := hA.pv hp
  have hab : a.block < w.heap.size := hab
  have hcell : CellsAt w (a.add (i * 4)) (pC p) := hcell
  have hdr : vs.drop i = p :: vs.drop (i + 1) := by
   obtain ⟨h1, h2⟩ := List.getElem?_eq_some_iff.1 hp
   rw [List.drop_eq_getElem_cons h1, h2]
  rw [hdr, List.all_cons] at hrest
  rw [hqa]
  refine zgs ?_
  apply OL.alloc; rfl; rfl; exact CellsL.agg; (intro bk hbk; simp only [AllLe, and_true] at hbk)
  refine zgs ?_
  revert bk
  intro b6 hb6x
  have hb6 : w.heap.size ≤ b6 := by first | exact hb6x | exact hb6x.1
  by_cases hk : p.k = kd
  ·refine W.cond rfl (fun h => by simp [hk] at h) (fun _ => ?_)
   rw [decide_eq_true hk, Bool.true_and] at hrest
   refine zgs ?_
   exact At.again (i + 1) ⟨by omega, hrest⟩ (by omega) (by exact Sub.au) (fun w' hw' => hw'.thin (.any (fun k hk => by rw [show k = b6 from hk]; exact ⟨hb6, trivial⟩) Thin.nil))
  ·refine W.cond rfl (fun _ => ?_) (fun h => by simp at h; exact absurd h hk)
   rw [decide_eq_false hk, Bool.false_and] at hrest
   refine zgs ?_
   (refine zfn ?_; intro w' hw')
   exact ⟨by rw [hrest], hw'.toExt (by exact mau) (fun k hk => NotOwned.blk (by omega) NotOwned.nil)⟩
 ·rw [List.drop_eq_nil_of_le (by omega), List.all_nil] at hrest
  refine zgs ?_
  (refine zfn ?_; intro w' hw')
  exact ⟨by rw [hrest], by (exact hw'.fr)⟩
def binA (op a b : Int) : PV × Int := if (op = 4 ∨ op = 5) ∧ b = 0 then (zP, 1) else (pw (binV op a b), 0)
theorem binary_calls (op a b : Int) (hop : 1 ≤ op ∧ op ≤ 7) (hab : op = 4 ∨ op = 5 → (-1073741824 ≤ a ∧ a ≤ 1073741823) ∧ (-1073741824 ≤ b ∧ b ≤ 1073741823)) (w : World) :
  Calls Try.prog 168 [.int .i64 op, .int .i64 a, .int .i64 b].toArray w fun e w' => e = .returned (.tuple #[.agg (pC (binA op a b).1).toArray, .int .i64 (binA op a b).2]) ∧ Ext w w' := by
 refine enter Try.func168 rfl Try.ntmps168 rfl (Cls.start w) (zen ?_)
 apply W.sr
 apply OL.alloc; rfl; rfl; exact CellsL.agg; (intro bk hbk; simp only [AllLe, and_true] at hbk)
 refine zgs ?_
 revert bk
 intro b6 hb6x
 have hb6 : w.heap.size ≤ b6 := by first | exact hb6x | exact hb6x.1
 have hfin : ∀ v, binV op a b = v → ¬ ((op = 4 ∨ op = 5) ∧ b = 0) → Ending.returned (.tuple #[.agg #[Value.int .i64 0, .int .i64 v, .slice none 0 0, .pointer none], .int .i64 0]) = .returned (.tuple #[.agg (pC (binA op a b).1).toArray, .int .i64 (binA op a b).2]) := by
  intro v hv h
  unfold binA
  rw [if_neg h, hv]
  rfl
 skip
 refine W.cnd ?_ ?_ <;> intro s1 <;> try exact zwx s1
 ·refine zgs ?_
  (((first | apply OL.op | apply QL.op); exact Guard.au; rfl; rfl); (exact Pev.call rfl (by exact Args.au) (fun _ w2 hw2 => (add_calls a b w2).mono (fun e w3 h => ⟨h.1, hw2.ext h.2⟩))))
  skip
  (((first | apply OL.op | apply QL.op); exact Guard.au; rfl; rfl); (exact Pev.call rfl (by exact Args.au) (fun _ w2 hw2 => (wordOf_calls _ w2).mono (fun e w3 h => ⟨h.1, hw2.ext h.2⟩))))
  refine zgs ?_
  exact At.finCT (b := b6) (cs := [.int .i64 0, .int .i64 (wd (a + b)), .slice none 0 0, .pointer none]) rfl rfl (by exact mau) rfl rfl rfl (fun w' hw' => ⟨hfin _ (show binV op a b = wd (a + b) by unfold binV; simp [*]) (by omega), hw'.toExt (by exact mau) (fun k hk => NotOwned.blk (by omega) NotOwned.nil)⟩)
 refine zgs ?_
 refine W.cnd ?_ ?_ <;> intro s2 <;> try exact zwx s2
 ·refine zgs ?_
  (((first | apply OL.op | apply QL.op); exact Guard.au; rfl; rfl); (exact Pev.call rfl (by exact Args.au) (fun _ w2 hw2 => (sub_calls a b w2).mono (fun e w3 h => ⟨h.1, hw2.ext h.2⟩))))
  skip
  (((first | apply OL.op | apply QL.op); exact Guard.au; rfl; rfl); (exact Pev.call rfl (by exact Args.au) (fun _ w2 hw2 => (wordOf_calls _ w2).mono (fun e w3 h => ⟨h.1, hw2.ext h.2⟩))))
  refine zgs ?_
  exact At.finCT (b := b6) (cs := [.int .i64 0, .int .i64 (wd (a - b)), .slice none 0 0, .pointer none]) rfl rfl (by exact mau) rfl rfl rfl (fun w' hw' => ⟨hfin _ (show binV op a b = wd (a - b) by unfold binV; simp [*]) (by omega), hw'.toExt (by exact mau) (fun k hk => NotOwned.blk (by omega) NotOwned.nil)⟩)
 refine zgs ?_
 refine W.cnd ?_ ?_ <;> intro s3 <;> try exact zwx s3
 ·refine zgs ?_
  (((first | apply OL.op | apply QL.op); exact Guard.au; rfl; rfl); (exact Pev.call rfl (by exact Args.au) (fun _ w2 hw2 => (mul_calls a b w2).mono (fun e w3 h => ⟨h.1, hw2.ext h.2⟩))))
  skip
  (((first | apply OL.op | apply QL.op); exact Guard.au; rfl; rfl); (exact Pev.call rfl (by exact Args.au) (fun _ w2 hw2 => (wordOf_calls _ w2).mono (fun e w3 h => ⟨h.1, hw2.ext h.2⟩))))
  refine zgs ?_
  exact At.finCT (b := b6) (cs := [.int .i64 0, .int .i64 (wd (a * b)), .slice none 0 0, .pointer none]) rfl rfl (by exact mau) rfl rfl rfl (fun w' hw' => ⟨hfin _ (show binV op a b = wd (a * b) by unfold binV; simp [*]) (by omega), hw'.toExt (by exact mau) (fun k hk => NotOwned.blk (by omega) NotOwned.nil)⟩)
 refine zgs ?_
 refine W.cnd ?_ ?_ <;> intro s4 <;> try exact zwx s4
 ·refine zgs ?_
  (((first | apply OL.op | apply QL.op); exact Guard.au; rfl; rfl); (exact Pev.call rfl (by exact Args.au) (fun _ w2 hw2 => (truth_calls _ w2).mono (fun e w3 h => ⟨h.1, hw2.ext h.2⟩))))
  refine zgs ?_
  exact At.finCT (b := b6) (cs := [.int .i64 0, .int .i64 (b2i (decide (a < b))), .slice none 0 0, .pointer none]) rfl rfl (by exact mau) rfl rfl rfl (fun w' hw' => ⟨hfin _ (show binV op a b = b2i (decide (a < b)) by unfold binV; simp [*]) (by omega), hw'.toExt (by exact mau) (fun k hk => NotOwned.blk (by omega) NotOwned.nil)⟩)
 refine zgs ?_
 refine W.cnd ?_ ?_ <;> intro s5 <;> try exact zwx s5
 ·refine zgs ?_
  (((first | apply OL.op | apply QL.op); exact Guard.au; rfl; rfl); (exact Pev.call rfl (by exact Args.au) (fun _ w2 hw2 => (truth_calls _ w2).mono (fun e w3 h => ⟨h.1, hw2.ext h.2⟩))))
  refine zgs ?_
  exact At.finCT (b := b6) (cs := [.int .i64 0, .int .i64 (b2i (decide (a = b))), .slice none 0 0, .pointer none]) rfl rfl (by exact mau) rfl rfl rfl (fun w' hw' => ⟨hfin _ (show binV op a b = b2i (decide (a = b)) by unfold binV; simp [*]) (by omega), hw'.toExt (by exact mau) (fun k hk => NotOwned.blk (by omega) NotOwned.nil)⟩)
 refine zgs ?_
 by_cases hb0 : b = 0
 ·refine W.cond rfl (fun _ => ?_) (fun h => by simp at h; exact absurd hb0 h)
  have hz : binA op a b = (zP, 1) := by unfold binA; rw [if_pos ⟨by omega, hb0⟩]
  refine zgs ?_
  exact At.finCT (b := b6) (cs := [.int .i64 0, .int .i64 0, .slice none 0 0, .pointer none]) rfl rfl (by exact mau) rfl rfl rfl (fun w' hw' => ⟨by rw [hz]; rfl, hw'.toExt (by exact mau) (fun k hk => NotOwned.blk (by omega) NotOwned.nil)⟩)
 refine W.cond rfl (fun h => by simp at h; exact absurd h hb0) (fun _ => ?_)
 obtain ⟨ha, hb⟩ := hab (by omega)
 refine zgs ?_
 refine W.cnd ?_ ?_ <;> intro h4 <;> try exact zwx h4
 ·refine zgs ?_
  (((first | apply OL.op | apply QL.op); exact Guard.au; rfl; rfl); (exact Pev.call rfl (by exact Args.au) (fun _ w2 hw2 => (div_calls a b ha hb hb0 w2).mono (fun e w3 h => ⟨h.1, hw2.ext h.2⟩))))
  refine zgs ?_
  (((first | apply OL.op | apply QL.op); exact Guard.au; rfl; rfl); (exact Pev.call rfl (by exact Args.au) (fun _ w2 hw2 => (wordOf_calls _ w2).mono (fun e w3 h => ⟨h.1, hw2.ext h.2⟩))))
  refine zgs ?_
  exact At.finCT (b := b6) (cs := [.int .i64 0, .int .i64 (wd (a.tdiv b)), .slice none 0 0, .pointer none]) rfl rfl (by exact mau) rfl rfl rfl (fun w' hw' => ⟨hfin _ (by unfold binV; simp [*]) (fun h => hb0 h.2), hw'.toExt (by exact mau) (fun k hk => NotOwned.blk (by omega) NotOwned.nil)⟩)
 ·have h5 : op = 5 := by omega
  refine zgs ?_
  (((first | apply OL.op | apply QL.op); exact Guard.au; rfl; rfl); (exact Pev.call rfl (by exact Args.au) (fun _ w2 hw2 => (mod_calls a b ha hb hb0 w2).mono (fun e w3 h => ⟨h.1, hw2.ext h.2⟩))))
  refine zgs ?_
  (((first | apply OL.op | apply QL.op); exact Guard.au; rfl; rfl); (exact Pev.call rfl (by exact Args.au) (fun _ w2 hw2 => (wordOf_calls _ w2).mono (fun e w3 h => ⟨h.1, hw2.ext h.2⟩))))
  refine zgs ?_
  exact At.finCT (b := b6) (cs := [.int .i64 0, .int .i64 (a.tmod b), .slice none 0 0, .pointer none]) rfl rfl (by exact mau) rfl rfl rfl (fun w' hw' => ⟨hfin _ (by unfold binV; simp [*]) (fun h => hb0 h.2), hw'.toExt (by exact mau) (fun k hk => NotOwned.blk (by omega) NotOwned.nil)⟩)
end Go.Proofs.Ytehelljmaiophaa.ss

/- The walks of ssa's operations on objects and vectors. Conditions: none. -/
namespace Go.Ss
open Go.Eng Go.RowKit
def objA (op n : Int) (p0 p1 : PV) : PV × Int :=
 if op = 11 then if (p0.k = 1 ∨ p0.k = 2) ∧ n < (p0.l.length : Int) then (p0.l.getD n.toNat zP, 0) else (zP, 5)
 else if p0.k ≠ 1 then (zP, 5)
 else if op = 10 then (pw p0.n, 0)
 else if op = 12 then (pw p0.l.length, 0)
 else if p1.k ≠ 0 then (zP, 5)
 else if p1.n < 0 ∨ (p0.l.length : Int) ≤ p1.n then (zP, 2)
 else (p0.l.getD p1.n.toNat zP, 0)
theorem PVO.arr {F : Shp} {w : World} {O : Nat → Prop} {p : PV} (h : PVO F w O p) : Arr (pvR F) w O (us p.l) p.q := by
 refine ⟨fun hl => ?_, fun x hx => ?_⟩
 ·rw [List.length_map] at hl
  obtain ⟨a, h1, h2, h3⟩ := h.kids hl
  refine ⟨a, h1, h2, ?_⟩
  rw [cat_map]
  exact h3
 ·obtain ⟨c, hc, rfl⟩ := List.mem_map.1 hx
  exact h.kid hc
theorem rowPV {F : Shp} {w : World} {B m cap : Nat} {O O' : Nat → Prop} {q : Option Addr} {e : TypeId} {l : List PV} {k n : Int} {c b : Nat} (h : (row B O q m cap e F.sz (cat F.cf l)).holds w) (hm : l.length = m) (hl : ∀ p ∈ l, PVO F w O' p) (h16 : l.length ≤ 16) (ho : ∀ k, B ≤ k ∧ O k → O' k) : PVO F w O' (.mk k n q c b l) := by
 simp only [PVO]
 refine ⟨h16, fun h0 => ?_⟩
 obtain ⟨a, h1, _, h3⟩ := SlAt.of_row h (by rw [cat_length (f := F.cf) F.len]; exact Nat.mul_pos h0 F.pos)
 refine ⟨a, h1, ho _ ⟨?_, h.1 a h1⟩, PVOs.of_list h3 hl⟩
 rcases h.2.2 with ⟨h4, _⟩ | ⟨g, cap', cur, h4, h5, _⟩
 ·simp only [Value.slice.injEq] at h4
  rw [h4.1] at h1; cases h1
 ·simp only [Value.slice.injEq] at h4
  rw [h4.1] at h1
  obtain rfl := Option.some.inj h1
  exact h5
theorem zipPV {f : PV → PV → Int} : ∀ {l m : List PV} {p : PV}, p ∈ List.zipWith (fun x y => pw (f x y)) l m → ∃ i, True ∧ p = pw i
 | [], _, _, h => by simp at h
 | _ :: _, [], _, h => by simp at h
 | a :: l, b :: m, x, h => by
  rw [List.zipWith_cons_cons] at h
  rcases List.mem_cons.1 h with rfl | h
  ·exact ⟨_, trivial, rfl⟩
  ·exact zipPV h
theorem getD_at {l : List PV} {i : Nat} {c : PV} (h : l[i]? = some c) : l.getD i zP = c := by rw [List.getD_eq_getElem?_getD, h]; rfl
end Go.Ss
namespace Go.Proofs.Ytehelljmaiophaa.ss
structure XVec (B : Nat) where
 b9 : Nat
 h9 : B ≤ b9
 old : Nat → Value
set_option maxRecDepth 100000
open Go.Eng Go.RowKit Go.Ss
theorem object_calls (i : Go.Ss.In) (iy : Sc) (vs : List PV) (q : Option Addr) (cap : Nat) (p0 p1 : PV) (h0 : vs[0]? = some p0) (h1 : i.op = 21 → vs[1]? = some p1) (hop : i.op = 10 ∨ i.op = 11 ∨ i.op = 12 ∨ i.op = 21) (hn : i.op = 11 → 0 ≤ i.n) (w : World) (hA : Arr (pvR pF) w (low w) (us vs) q) :
  Calls Try.prog 169 [.agg (inC i iy).toArray, .slice q vs.length cap].toArray w fun e w' => e = .returned (.tuple #[.agg (pC (objA i.op i.n p0 p1).1).toArray, .int .i64 (objA i.op i.n p0 p1).2]) ∧ Ext w w' := by
 obtain ⟨a, hqa, hab, hc0, hok0⟩ := hA.pv h0
 have hab : a.block < w.heap.size := hab
 have hc0 : CellsAt w (a.add (0 * 4)) (pC p0) := hc0
 have hlen := (List.getElem?_eq_some_iff.1 h0).1
 have hpl := hok0.len
 obtain ⟨x, hx⟩ : ∃ x, objA i.op i.n p0 p1 = x := ⟨_, rfl⟩
 rw [hx]
 unfold objA at hx
 rw [hqa]
 refine enter Try.func169 rfl Try.ntmps169 rfl (Cls.start w) (zen ?_)
 unfold inC
 apply W.sr
 apply OL.box; rfl; rfl; exact CellsL.agg; (intro bk hbk; simp only [AllLe, and_true] at hbk)
 apply OL.alloc; rfl; rfl; exact CellsL.agg; (intro bk hbk; simp only [AllLe, and_true] at hbk)
 refine zgs ?_
 apply OL.alloc; rfl; rfl; exact CellsL.agg; (intro bk hbk; simp only [AllLe, and_true] at hbk)
 refine zgs ?_
 rename_i b2 hb2x b4 hb4x
 revert bk
 intro b6 hb6x
 have hb2 : w.heap.size ≤ b2 := by first | exact hb2x | exact hb2x.1
 have hb4 : w.heap.size ≤ b4 := by first | exact hb4x | exact hb4x.1
 have hb6 : w.heap.size ≤ b6 := by first | exact hb6x | exact hb6x.1
 refine W.cnd ?_ ?_ <;> intro s1 <;> try exact zwx s1
 ·rw [if_pos s1] at hx
  have hn0 := hn s1
  refine zgs ?_
  by_cases hc : (p0.k = 1 ∨ p0.k = 2) ∧ i.n < (p0.l.length : Int)
  ·refine W.cond rfl (fun h => by simp at h; omega) (fun _ => ?_)
   rw [if_pos hc] at hx
   obtain ⟨c, hcc⟩ : ∃ c, p0.l[i.n.toNat]? = some c := ⟨_, List.getElem?_eq_getElem (by omega)⟩
   rw [getD_at hcc] at hx
   obtain ⟨a2, hq2, hab2, hc2, _⟩ := hok0.arr.pv hcc
   have hab2 : a2.block < w.heap.size := hab2
   have hc2 : CellsAt w (a2.add (i.n.toNat * 4)) (pC c) := hc2
   rw [hq2]
   refine zgs ?_
   exact At.finCT (b := b4) (cs := [.int .i64 c.k, .int .i64 c.n, .slice c.q c.l.length c.cap, .pointer (if c.k = 3 then some ⟨c.b, 0, none⟩ else none)]) rfl rfl (by exact mau) rfl rfl rfl (fun w' hw' => ⟨by rw [← hx]; rfl, hw'.toExt (by exact mau) (fun k hk => NotOwned.blk (by omega) (NotOwned.blk (by omega) (NotOwned.blk (by omega) NotOwned.nil)))⟩)
  ·refine W.cond rfl (fun _ => ?_) (fun h => by simp at h; omega)
   rw [if_neg hc] at hx
   refine zgs ?_
   exact At.finCT (b := b4) (cs := [.int .i64 0, .int .i64 0, .slice none 0 0, .pointer none]) rfl rfl (by exact mau) rfl rfl rfl (fun w' hw' => ⟨by rw [← hx]; rfl, hw'.toExt (by exact mau) (fun k hk => NotOwned.blk (by omega) (NotOwned.blk (by omega) (NotOwned.blk (by omega) NotOwned.nil)))⟩)
 rw [if_neg s1] at hx
 refine zgs ?_
 refine W.cnd ?_ ?_ <;> intro s2 <;> try exact zwx s2
 ·rw [if_pos s2] at hx
  refine zgs ?_
  exact At.finCT (b := b4) (cs := [.int .i64 0, .int .i64 0, .slice none 0 0, .pointer none]) rfl rfl (by exact mau) rfl rfl rfl (fun w' hw' => ⟨by rw [← hx]; rfl, hw'.toExt (by exact mau) (fun k hk => NotOwned.blk (by omega) (NotOwned.blk (by omega) (NotOwned.blk (by omega) NotOwned.nil)))⟩)
 rw [if_neg (by omega)] at hx
 refine zgs ?_
 refine W.cnd ?_ ?_ <;> intro s3 <;> try exact zwx s3
 ·rw [if_pos s3] at hx
  refine zgs ?_
  (((first | apply OL.op | apply QL.op); exact Guard.au; rfl; rfl); (exact Pev.call rfl (by exact Args.au) (fun _ w2 hw2 => (wordOf_calls _ w2).mono (fun e w3 h => ⟨h.1, hw2.ext h.2⟩))))
  refine zgs ?_
  exact At.finCT (b := b4) (cs := [.int .i64 0, .int .i64 p0.n, .slice none 0 0, .pointer none]) rfl rfl (by exact mau) rfl rfl rfl (fun w' hw' => ⟨by rw [← hx]; rfl, hw'.toExt (by exact mau) (fun k hk => NotOwned.blk (by omega) (NotOwned.blk (by omega) (NotOwned.blk (by omega) NotOwned.nil)))⟩)
 rw [if_neg s3] at hx
 refine zgs ?_
 refine W.cnd ?_ ?_ <;> intro s4 <;> try exact zwx s4
 ·rw [if_pos s4] at hx
  refine zgs ?_
  (((first | apply OL.op | apply QL.op); exact Guard.au; rfl; rfl); (exact Pev.call rfl (by exact Args.au) (fun _ w2 hw2 => (wordOf_calls _ w2).mono (fun e w3 h => ⟨h.1, hw2.ext h.2⟩))))
  refine zgs ?_
  exact At.finCT (b := b4) (cs := [.int .i64 0, .int .i64 p0.l.length, .slice none 0 0, .pointer none]) rfl rfl (by exact mau) rfl rfl rfl (fun w' hw' => ⟨by rw [← hx]; rfl, hw'.toExt (by exact mau) (fun k hk => NotOwned.blk (by omega) (NotOwned.blk (by omega) (NotOwned.blk (by omega) NotOwned.nil)))⟩)
 rw [if_neg s4] at hx
 have hp1 := h1 (by omega)
 obtain ⟨a', hqa', _, hc1, hok1⟩ := hA.pv hp1
 rw [hqa] at hqa'
 obtain rfl := Option.some.inj hqa'
 have hc1 : CellsAt w (a.add (1 * 4)) (pC p1) := hc1
 have hlen1 := (List.getElem?_eq_some_iff.1 hp1).1
 have hc10 : w.cell? ⟨a.block, a.off + 1 * 4 + 0, none⟩ = some (.int .i64 p1.k) := hc1 0 _ rfl
 have hc11 : w.cell? ⟨a.block, a.off + 1 * 4 + 1, none⟩ = some (.int .i64 p1.n) := hc1 1 _ rfl
 refine zgs ?_
 refine W.cnd ?_ ?_ <;> intro s5 <;> try exact zwx s5
 ·rw [if_pos s5] at hx
  refine zgs ?_
  exact At.finCT (b := b4) (cs := [.int .i64 0, .int .i64 0, .slice none 0 0, .pointer none]) rfl rfl (by exact mau) rfl rfl rfl (fun w' hw' => ⟨by rw [← hx]; rfl, hw'.toExt (by exact mau) (fun k hk => NotOwned.blk (by omega) (NotOwned.blk (by omega) (NotOwned.blk (by omega) NotOwned.nil)))⟩)
 rw [if_neg (by omega)] at hx
 apply W.seq
 apply W.regd0; decide +kernel; kernel_rfl; decide +kernel; exact fun w hw => hw.drew
 refine zgs ?_
 by_cases hc : p1.n < 0 ∨ (p0.l.length : Int) ≤ p1.n
 ·rw [if_pos hc] at hx
  refine W.cond rfl (fun _ => ?_) (fun h => by simp at h; omega)
  refine zgs ?_
  exact At.finCT (b := b4) (cs := [.int .i64 0, .int .i64 0, .slice none 0 0, .pointer none]) rfl rfl (by exact mau) rfl rfl rfl (fun w' hw' => ⟨by rw [← hx]; rfl, hw'.toExt (by exact mau) (fun k hk => NotOwned.blk (by omega) (NotOwned.blk (by omega) (NotOwned.blk (by omega) NotOwned.nil)))⟩)
 rw [if_neg hc] at hx
 refine W.cond rfl (fun h => by simp at h; omega) (fun _ => ?_)
 obtain ⟨c, hcc⟩ : ∃ c, p0.l[p1.n.toNat]? = some c := ⟨_, List.getElem?_eq_getElem (by omega)⟩
 rw [getD_at hcc] at hx
 obtain ⟨a2, hq2, hab2, hc2, _⟩ := hok0.arr.pv hcc
 have hab2 : a2.block < w.heap.size := hab2
 have hc2 : CellsAt w (a2.add (p1.n.toNat * 4)) (pC c) := hc2
 rw [hq2]
 refine zgs ?_
 apply W.regq; apply Split.s rfl; apply Split.s rfl; apply Split.s rfl; apply Split.s rfl; apply Split.s rfl; apply Split.s rfl; apply Split.s rfl; apply Split.s rfl; exact Split.z rfl; kernel_rfl; decide +kernel; exact fun w hw => hw.drew
 refine zgs ?_
 exact At.finCT (b := b4) (cs := [.int .i64 c.k, .int .i64 c.n, .slice c.q c.l.length c.cap, .pointer (if c.k = 3 then some ⟨c.b, 0, none⟩ else none)]) rfl rfl (by exact mau) rfl rfl rfl (fun w' hw' => ⟨by rw [← hx]; rfl, hw'.toExt (by exact mau) (fun k hk => NotOwned.blk (by omega) (NotOwned.blk (by omega) (NotOwned.blk (by omega) NotOwned.nil)))⟩)
def packA (q : Option Addr) (cap : Nat) (vs : List PV) : PV × Int := if (vs.all fun p => decide (p.k = 0)) then (.mk 4 0 q cap 0 vs, 0) else (zP, 5)
theorem vec_pack (i : Go.Ss.In) (iy : Sc) (hop : i.op = 22) (vs : List PV) (q : Option Addr) (cap : Nat) (hvl : vs.length ≤ 16) (w : World) (hA : Arr (pvR pF) w (low w) (us vs) q) :
  Calls Try.prog 170 [.agg (inC i iy).toArray, .slice q vs.length cap].toArray w fun e w' => e = .returned (.tuple #[.agg (pC (packA q cap vs).1).toArray, .int .i64 (packA q cap vs).2]) ∧ Ext w w' := by
 obtain ⟨x, hx⟩ : ∃ x, packA q cap vs = x := ⟨_, rfl⟩
 rw [hx]
 unfold packA at hx
 refine enter Try.func170 rfl Try.ntmps170 rfl (Cls.start w) (zen ?_)
 unfold inC
 apply W.sr
 apply OL.box; rfl; rfl; exact CellsL.agg; (intro bk hbk; simp only [AllLe, and_true] at hbk)
 apply OL.alloc; rfl; rfl; exact CellsL.agg; (intro bk hbk; simp only [AllLe, and_true] at hbk)
 refine zgs ?_
 rename_i b2 hb2x
 revert bk
 intro b4 hb4x
 have hb2 : w.heap.size ≤ b2 := by first | exact hb2x | exact hb2x.1
 have hb4 : w.heap.size ≤ b4 := by first | exact hb4x | exact hb4x.1
 refine W.cnd ?_ ?_ <;> intro s1 <;> try exact zwx s1
 refine zgs ?_
 (((first | apply OL.op | apply QL.op); exact Guard.au; rfl; rfl); (exact Pev.call rfl (by exact Args.au) (fun _ w2 hw2 => (all_calls vs q cap 0 w2 (by omega) (hA.at hw2 (by exact mau) (fun k hk => NotOwned.blk (by omega) (NotOwned.blk (by omega) NotOwned.nil)))).mono (fun e w3 h => ⟨h.1, hw2.ext h.2⟩))))
 refine zgs ?_
 cases hall : (vs.all fun p => decide (p.k = 0)) with
 | true =>
  rw [hall, if_pos rfl] at hx
  refine W.cond rfl (fun h => by simp [hall] at h) (fun _ => ?_)
  refine zgs ?_
  exact At.finCT (b := b4) (cs := [.int .i64 4, .int .i64 0, .slice q vs.length cap, .pointer none]) rfl rfl (by exact mau) rfl rfl rfl (fun w' hw' => ⟨by rw [← hx]; rfl, hw'.toExt (by exact mau) (fun k hk => NotOwned.blk (by omega) (NotOwned.blk (by omega) NotOwned.nil))⟩)
 | false =>
  rw [hall, if_neg (by decide)] at hx
  refine W.cond rfl (fun _ => ?_) (fun h => by simp [hall] at h)
  refine zgs ?_
  exact At.finCT (b := b4) (cs := [.int .i64 0, .int .i64 0, .slice none 0 0, .pointer none]) rfl rfl (by exact mau) rfl rfl rfl (fun w' hw' => ⟨by rw [← hx]; rfl, hw'.toExt (by exact mau) (fun k hk => NotOwned.blk (by omega) (NotOwned.blk (by omega) NotOwned.nil))⟩)
def laneA (n : Int) (p0 : PV) : PV × Int := if p0.k ≠ 4 ∨ (p0.l.length : Int) ≤ n then (zP, 5) else (p0.l.getD n.toNat zP, 0)
theorem vec_lane (i : Go.Ss.In) (iy : Sc) (hop : i.op = 24) (hn : 0 ≤ i.n) (vs : List PV) (q : Option Addr) (cap : Nat) (p0 : PV) (h0 : vs[0]? = some p0) (w : World) (hA : Arr (pvR pF) w (low w) (us vs) q) :
  Calls Try.prog 170 [.agg (inC i iy).toArray, .slice q vs.length cap].toArray w fun e w' => e = .returned (.tuple #[.agg (pC (laneA i.n p0).1).toArray, .int .i64 (laneA i.n p0).2]) ∧ Ext w w' := by
 obtain ⟨x, hx⟩ : ∃ x, laneA i.n p0 = x := ⟨_, rfl⟩
 rw [hx]
 unfold laneA at hx
 obtain ⟨a, hqa, hab, hc0, hok0⟩ := hA.pv h0
 have hab : a.block < w.heap.size := hab
 have hc0 : CellsAt w (a.add (0 * 4)) (pC p0) := hc0
 have hlen := (List.getElem?_eq_some_iff.1 h0).1
 have hpl := hok0.len
 rw [hqa]
 refine enter Try.func170 rfl Try.ntmps170 rfl (Cls.start w) (zen ?_)
 unfold inC
 apply W.sr
 apply OL.box; rfl; rfl; exact CellsL.agg; (intro bk hbk; simp only [AllLe, and_true] at hbk)
 apply OL.alloc; rfl; rfl; exact CellsL.agg; (intro bk hbk; simp only [AllLe, and_true] at hbk)
 refine zgs ?_
 rename_i b2 hb2x
 revert bk
 intro b4 hb4x
 have hb2 : w.heap.size ≤ b2 := by first | exact hb2x | exact hb2x.1
 have hb4 : w.heap.size ≤ b4 := by first | exact hb4x | exact hb4x.1
 refine W.cnd ?_ ?_ <;> intro s1 <;> try exact zwx s1
 refine zgs ?_
 refine W.cnd ?_ ?_ <;> intro s2 <;> try exact zwx s2
 refine zgs ?_
 apply W.regd0; decide +kernel; kernel_rfl; decide +kernel; exact fun w hw => hw.drew
 refine zgs ?_
 by_cases hc : p0.k ≠ 4 ∨ (p0.l.length : Int) ≤ i.n
 ·rw [if_pos hc] at hx
  refine W.cond rfl (fun _ => ?_) (fun h => by simp at h; omega)
  refine zgs ?_
  exact At.finCT (b := b4) (cs := [.int .i64 0, .int .i64 0, .slice none 0 0, .pointer none]) rfl rfl (by exact mau) rfl rfl rfl (fun w' hw' => ⟨by rw [← hx]; rfl, hw'.toExt (by exact mau) (fun k hk => NotOwned.blk (by omega) (NotOwned.blk (by omega) NotOwned.nil))⟩)
 rw [if_neg hc] at hx
 refine W.cond rfl (fun h => by simp at h; omega) (fun _ => ?_)
 obtain ⟨c, hcc⟩ : ∃ c, p0.l[i.n.toNat]? = some c := ⟨_, List.getElem?_eq_getElem (by omega)⟩
 rw [getD_at hcc] at hx
 obtain ⟨a2, hq2, hab2, hc2, _⟩ := hok0.arr.pv hcc
 have hab2 : a2.block < w.heap.size := hab2
 have hc2 : CellsAt w (a2.add (i.n.toNat * 4)) (pC c) := hc2
 have hc0 : CellsAt w (a.add (0 * 4)) [.int .i64 p0.k, .int .i64 p0.n, .slice p0.q p0.l.length p0.cap, .pointer (if p0.k = 3 then some ⟨p0.b, 0, none⟩ else none)] := hc0
 rw [hq2] at hc0
 rw [hq2]
 refine zgs ?_
 apply W.regq; apply Split.s rfl; apply Split.s rfl; apply Split.s rfl; apply Split.s rfl; apply Split.s rfl; apply Split.s rfl; apply Split.s rfl; apply Split.s rfl; exact Split.z rfl; kernel_rfl; decide +kernel; exact fun w hw => hw.drew
 refine zgs ?_
 exact At.finCT (b := b4) (cs := [.int .i64 c.k, .int .i64 c.n, .slice c.q c.l.length c.cap, .pointer (if c.k = 3 then some ⟨c.b, 0, none⟩ else none)]) rfl rfl (by exact mau) rfl rfl rfl (fun w' hw' => ⟨by rw [← hx]; rfl, hw'.toExt (by exact mau) (fun k hk => NotOwned.blk (by omega) (NotOwned.blk (by omega) NotOwned.nil))⟩)
theorem vec_new (i : Go.Ss.In) (iy : Sc) (hn : i.n = 1 ∨ i.n = 2 ∨ i.n = 3) (hop : i.op = 23) (vs : List PV) (q : Option Addr) (cap : Nat) (p0 p1 : PV) (hvs : vs = [p0, p1]) (w : World) (hA : Arr (pvR pF) w (low w) (us vs) q) :
  Calls Try.prog 170 [.agg (inC i iy).toArray, .slice q vs.length cap].toArray w fun e w' => Ext w w' ∧ (((p0.k ≠ 4 ∨ p1.k ≠ 4 ∨ p0.l.length ≠ p1.l.length) ∧ e = .returned (.tuple #[.agg (pC zP).toArray, .int .i64 5])) ∨
   (¬ (p0.k ≠ 4 ∨ p1.k ≠ 4 ∨ p0.l.length ≠ p1.l.length) ∧ ∃ v : PV, v.k = 4 ∧ v.n = 0 ∧ v.l = List.zipWith (fun x y => pw (binV i.n x.n y.n)) p0.l p1.l ∧ e = .returned (.tuple #[.agg (pC v).toArray, .int .i64 0]) ∧ PVO pF w' (fresh w w') v)) := by
 subst hvs
 obtain ⟨a, hqa, hab, hc0, hok0⟩ := hA.pv (i := 0) (p := p0) rfl
 obtain ⟨a', hqa', _, hc1, hok1⟩ := hA.pv (i := 1) (p := p1) rfl
 rw [hqa] at hqa'
 obtain rfl := Option.some.inj hqa'
 have hab : a.block < w.heap.size := hab
 have hc0 : CellsAt w (a.add (0 * 4)) (pC p0) := hc0
 have hc1 : CellsAt w (a.add (1 * 4)) (pC p1) := hc1
 have hc12 : w.cell? ⟨a.block, a.off + 1 * 4 + 2, none⟩ = some (.slice p1.q p1.l.length p1.cap) := hc1 2 _ rfl
 have hpl := hok0.len
 refine enter Try.func170 rfl Try.ntmps170 rfl (Cls.start w) (zen ?_)
 unfold inC
 apply W.sr
 apply OL.box; rfl; rfl; exact CellsL.agg; (intro bk hbk; simp only [AllLe, and_true] at hbk)
 apply OL.alloc; rfl; rfl; exact CellsL.agg; (intro bk hbk; simp only [AllLe, and_true] at hbk)
 refine zgs ?_
 rename_i b2 hb2x
 revert bk
 intro b4 hb4x
 have hb2 : w.heap.size ≤ b2 := by first | exact hb2x | exact hb2x.1
 have hb4 : w.heap.size ≤ b4 := by first | exact hb4x | exact hb4x.1
 refine W.cnd ?_ ?_ <;> intro s1 <;> try exact zwx s1
 refine zgs ?_
 refine W.cnd ?_ ?_ <;> intro s2 <;> try exact zwx s2
 refine zgs ?_
 apply W.regd0; decide +kernel; kernel_rfl; decide +kernel; exact fun w hw => hw.drew
 refine zgs ?_
 (((first | apply OL.op | apply QL.op); exact Guard.au; rfl; rfl); (exact Pev.call (v := .bool (decide (p0.k = 4) && decide (p1.k = 4))) rfl (by exact Args.au) (fun _ w2 hw2 => (all_calls [p0, p1] q cap 4 w2 (by simp) (hA.at hw2 (by exact mau) (fun k hk => NotOwned.blk (by omega) (NotOwned.blk (by omega) NotOwned.nil)))).mono (fun e w3 h => ⟨by rw [h.1]; simp, hw2.ext h.2⟩))))
 simp only [List.length_cons, List.length_nil, Nat.zero_add, Nat.reduceAdd]
 rw [hqa]
 refine zgs ?_
 by_cases hc : p0.k ≠ 4 ∨ p1.k ≠ 4 ∨ p0.l.length ≠ p1.l.length
 ·refine W.cond rfl (fun _ => ?_) (fun h => by simp at h; omega)
  refine zgs ?_
  exact At.finCT (b := b4) (cs := [.int .i64 0, .int .i64 0, .slice none 0 0, .pointer none]) rfl rfl (by exact mau) rfl rfl rfl (fun w' hw' => ⟨hw'.toExt (by exact mau) (fun k hk => NotOwned.blk (by omega) (NotOwned.blk (by omega) NotOwned.nil)), .inl ⟨hc, rfl⟩⟩)
 refine W.cond rfl (fun h => by simp at h; omega) (fun _ => ?_)
 have hll : p0.l.length = p1.l.length := by omega
 obtain ⟨Z, hZ⟩ : ∃ Z, List.zipWith (fun x y => pw (binV i.n x.n y.n)) p0.l p1.l = Z := ⟨_, rfl⟩
 have hZl : Z.length = p0.l.length := by rw [← hZ, List.length_zipWith]; omega
 refine zgs ?_
 apply OL.alloc; rfl; rfl; exact CellsL.agg; (intro bk hbk; simp only [AllLe, and_true] at hbk)
 refine zgs ?_
 revert bk
 intro b6 hb6x
 have hb6 : w.heap.size ≤ b6 := by first | exact hb6x | exact hb6x.1
 skip
 refine W.loop (G := Nat × GR) (fun g => g.1 ≤ p0.l.length) (fun g => p0.l.length - g.1)
  (fun g => [(1, true, .slice (some a) 2 cap), (2, true, .pointer (some ⟨b2, 0, none⟩)), (4, true, .pointer (some ⟨b4, 0, none⟩)), (6, true, .pointer (some ⟨b6, 0, none⟩)), (68, true, .slice p0.q p0.l.length p0.cap), (69, true, .int .i64 (p0.l.length : Int)), (70, true, .int .i64 (g.1 : Int))])
  (fun g => Cls [row w.heap.size g.2.O g.2.q g.1 g.2.c 198 4 (cat pC (Z.take g.1)), blk b6 198 [.int .i64 4, .int .i64 0, .slice g.2.q g.1 g.2.c, .pointer none], blk b4 198 [.int .i64 0, .int .i64 0, .slice none 0 0, .pointer none], blk b2 85 [.int .i64 i.to_, .int .i64 i.op, .int .i64 i.n, .slice iy.1 i.args.length iy.2]] [w])
  (0, ⟨fun _ => False, none, 0⟩) (by simp) (by exact Sub.au) (fun w' hw' => hw'.row_nil w.heap.size 198 4) ?_
 rintro ⟨j, ⟨O, q', c'⟩⟩ hj
 simp only at hj ⊢
 refine zgs ?_
 refine W.cnd ?_ ?_ <;> intro hlt <;> try exact zwx hlt
 ·have hjl : j < p0.l.length := by omega
  obtain ⟨u, hx⟩ : ∃ u, p0.l[j]? = some u := ⟨_, List.getElem?_eq_getElem hjl⟩
  obtain ⟨v, hy⟩ : ∃ v, p1.l[j]? = some v := ⟨_, List.getElem?_eq_getElem (by omega)⟩
  obtain ⟨a2, hq2, hab2, hc2, _⟩ := hok0.arr.pv hx
  obtain ⟨a3, hq3, hab3, hc3, _⟩ := hok1.arr.pv hy
  have hab2 : a2.block < w.heap.size := hab2
  have hab3 : a3.block < w.heap.size := hab3
  have hc2 : CellsAt w (a2.add (j * 4)) (pC u) := hc2
  have hc3 : CellsAt w (a3.add (j * 4)) (pC v) := hc3
  have hz : Z[j]? = some (pw (binV i.n u.n v.n)) := by rw [← hZ, List.getElem?_zipWith, hx, hy]
  have htk : Z.take (j + 1) = Z.take j ++ [pw (binV i.n u.n v.n)] := by rw [List.take_add_one, hz, Option.toList_some]
  rw [hq3] at hc12
  rw [hq2]
  refine zgs ?_
  apply OL.alloc; rfl; rfl; exact CellsL.agg; (intro bk hbk; simp only [AllLe, and_true] at hbk)
  refine zgs ?_
  revert bk
  intro b8 hb8x
  have hb8 : w.heap.size ≤ b8 := by first | exact hb8x | exact hb8x.1
  have hbin : binA i.n u.n v.n = (pw (binV i.n u.n v.n), 0) := by unfold binA; rw [if_neg (by omega)]
  obtain ⟨V, hV⟩ : ∃ V, binV i.n u.n v.n = V := ⟨_, rfl⟩
  rw [hV] at hbin htk
  refine W.regany (X := XVec w.heap.size) (fun x e => [(10, true, bif e 18 then .int .i64 0 else x.old 10), (9, true, bif e 16 then .pointer (some ⟨x.b9, 0, none⟩) else x.old 9), (90, true, bif e 15 then .int .i64 0 else x.old 90), (89, true, bif e 14 then .agg (pC (pw V)).toArray else x.old 89), (75, true, bif e 13 then .tuple #[.agg (pC (pw V)).toArray, .int .i64 0] else x.old 75), (88, true, bif e 12 then .tuple #[.agg (pC (pw V)).toArray, .int .i64 0] else x.old 88), (87, true, bif e 11 then .int .i64 v.n else x.old 87), (86, true, bif e 10 then .pointer (some ((a3.add (j * 4)).add 1)) else x.old 86), (85, true, bif e 9 then .pointer (some (a3.add (j * 4))) else x.old 85), (84, true, bif e 8 then .int .i64 (j : Int) else x.old 84), (83, true, bif e 7 then .slice (some a3) p1.l.length p1.cap else x.old 83), (82, true, bif e 6 then .pointer (some ⟨a.block, a.off + 1 * 4 + 2, none⟩) else x.old 82), (81, true, bif e 5 then .pointer (some (a.add (1 * 4))) else x.old 81), (80, true, bif e 4 then .slice (some a) 2 cap else x.old 80), (79, true, bif e 3 then .int .i64 u.n else x.old 79), (78, true, bif e 2 then .pointer (some ⟨b8, 0 + 1, none⟩) else x.old 78), (77, true, bif e 1 then .int .i64 i.n else x.old 77), (76, true, bif e 0 then .pointer (some ⟨b2, 0 + 2, none⟩) else x.old 76), (1, true, .slice (some a) 2 cap), (2, true, .pointer (some ⟨b2, 0, none⟩)), (4, true, .pointer (some ⟨b4, 0, none⟩)), (6, true, .pointer (some ⟨b6, 0, none⟩)), (7, true, .int .i64 (j : Int)), (8, true, .pointer (some ⟨b8, 0, none⟩)), (68, true, .slice (some a2) p0.l.length p0.cap), (69, true, .int .i64 (p0.l.length : Int)), (70, true, .int .i64 (j : Int))])
   (fun x e => (blk b8 198 [.int .i64 u.k, .int .i64 u.n, .slice u.q u.l.length u.cap, .pointer (if u.k = 3 then some ⟨u.b, 0, none⟩ else none)]) :: (row w.heap.size O q' j c' 198 4 (cat pC (Z.take j))) :: (blk b6 198 [.int .i64 4, .int .i64 0, .slice q' j c', .pointer none]) :: (blk b4 198 [.int .i64 0, .int .i64 0, .slice none 0 0, .pointer none]) :: (blk b2 85 [.int .i64 i.to_, .int .i64 i.op, .int .i64 i.n, .slice iy.1 i.args.length iy.2]) :: (bif e 16 then (bif e 17 then blk x.b9 198 [.int .i64 0, .int .i64 V, .slice none 0 0, .pointer none] else blk x.b9 198 [.int .i64 0, .int .i64 0, .slice none 0 0, .pointer none]) else nothing) :: [])
   (fun old => ⟨w.heap.size, Nat.le_refl _, old⟩) (by kernel_rfl) (by kernel_rfl) (fun w hw => hw.drew) (fun old => by repeat (first | exact SubO.nil | apply SubO.cons rfl | refine SubO.old rfl ?_)) (fun old w' hw' => hw'.add_nothing) ?_ ?_
  ·intro x e i o ho hei hd hcl
   have hi : i < 19 := (List.getElem?_eq_some_iff.1 ho).1
   obtain rfl | rfl | rfl | rfl | rfl | rfl | rfl | rfl | rfl | rfl | rfl | rfl | rfl | rfl | rfl | rfl | rfl | rfl | rfl : i = 0 ∨ i = 1 ∨ i = 2 ∨ i = 3 ∨ i = 4 ∨ i = 5 ∨ i = 6 ∨ i = 7 ∨ i = 8 ∨ i = 9 ∨ i = 10 ∨ i = 11 ∨ i = 12 ∨ i = 13 ∨ i = 14 ∨ i = 15 ∨ i = 16 ∨ i = 17 ∨ i = 18 := by omega
   ·cases ho
    have v0 : Eng.upd e 0 0 = true := upd_eq
    simp only [hei, cond_true, cond_false]
    have hx9 := x.h9
    refine zgs ?_
    exact At.beside x (by repeat (first | exact Sub.nil | apply Sub.cons rfl | refine Sub.cons_eq rfl (by simp only [v0, cond_true, cond_false]) ?_)) (fun w' hw' => by first | exact hw' | (simp only [v0, cond_true, cond_false]; exact hw'))
   ·cases ho
    have h0 : e 0 = true := hd ⟨0, .data⟩ (by simp) rfl
    have v1 : Eng.upd e 1 1 = true := upd_eq
    have v0 : Eng.upd e 1 0 = true := upd_mono h0
    simp only [hei, h0, cond_true, cond_false]
    have hx9 := x.h9
    refine zgs ?_
    exact At.beside x (by repeat (first | exact Sub.nil | apply Sub.cons rfl | refine Sub.cons_eq rfl (by simp only [v1, v0, cond_true, cond_false]) ?_)) (fun w' hw' => by first | exact hw' | (simp only [v1, v0, cond_true, cond_false]; exact hw'))
   ·cases ho
    have v2 : Eng.upd e 2 2 = true := upd_eq
    simp only [hei, cond_true, cond_false]
    have hx9 := x.h9
    refine zgs ?_
    exact At.beside x (by repeat (first | exact Sub.nil | apply Sub.cons rfl | refine Sub.cons_eq rfl (by simp only [v2, cond_true, cond_false]) ?_)) (fun w' hw' => by first | exact hw' | (simp only [v2, cond_true, cond_false]; exact hw'))
   ·cases ho
    have h2 : e 2 = true := hd ⟨2, .data⟩ (by simp) rfl
    have v3 : Eng.upd e 3 3 = true := upd_eq
    have v2 : Eng.upd e 3 2 = true := upd_mono h2
    simp only [hei, h2, cond_true, cond_false]
    have hx9 := x.h9
    refine zgs ?_
    exact At.beside x (by repeat (first | exact Sub.nil | apply Sub.cons rfl | refine Sub.cons_eq rfl (by simp only [v3, v2, cond_true, cond_false]) ?_)) (fun w' hw' => by first | exact hw' | (simp only [v3, v2, cond_true, cond_false]; exact hw'))
   ·cases ho
    have v4 : Eng.upd e 4 4 = true := upd_eq
    simp only [hei, cond_true, cond_false]
    have hx9 := x.h9
    refine zgs ?_
    exact At.beside x (by repeat (first | exact Sub.nil | apply Sub.cons rfl | refine Sub.cons_eq rfl (by simp only [v4, cond_true, cond_false]) ?_)) (fun w' hw' => by first | exact hw' | (simp only [v4, cond_true, cond_false]; exact hw'))
   ·cases ho
    have h4 : e 4 = true := hd ⟨4, .data⟩ (by simp) rfl
    have v5 : Eng.upd e 5 5 = true := upd_eq
    have v4 : Eng.upd e 5 4 = true := upd_mono h4
    simp only [hei, h4, cond_true, cond_false]
    have hx9 := x.h9
    refine zgs ?_
    exact At.beside x (by repeat (first | exact Sub.nil | apply Sub.cons rfl | refine Sub.cons_eq rfl (by simp only [v5, v4, cond_true, cond_false]) ?_)) (fun w' hw' => by first | exact hw' | (simp only [v5, v4, cond_true, cond_false]; exact hw'))
   ·cases ho
    have h5 : e 5 = true := hd ⟨5, .data⟩ (by simp) rfl
    have v6 : Eng.upd e 6 6 = true := upd_eq
    have v5 : Eng.upd e 6 5 = true := upd_mono h5
    simp only [hei, h5, cond_true, cond_false]
    have hx9 := x.h9
    refine zgs ?_
    exact At.beside x (by repeat (first | exact Sub.nil | apply Sub.cons rfl | refine Sub.cons_eq rfl (by simp only [v6, v5, cond_true, cond_false]) ?_)) (fun w' hw' => by first | exact hw' | (simp only [v6, v5, cond_true, cond_false]; exact hw'))
   ·cases ho
    have h6 : e 6 = true := hd ⟨6, .data⟩ (by simp) rfl
    have v7 : Eng.upd e 7 7 = true := upd_eq
    have v6 : Eng.upd e 7 6 = true := upd_mono h6
    simp only [hei, h6, cond_true, cond_false]
    have hx9 := x.h9
    refine zgs ?_
    exact At.beside x (by repeat (first | exact Sub.nil | apply Sub.cons rfl | refine Sub.cons_eq rfl (by simp only [v7, v6, cond_true, cond_false]) ?_)) (fun w' hw' => by first | exact hw' | (simp only [v7, v6, cond_true, cond_false]; exact hw'))
   ·cases ho
    have v8 : Eng.upd e 8 8 = true := upd_eq
    simp only [hei, cond_true, cond_false]
    have hx9 := x.h9
    refine zgs ?_
    exact At.beside x (by repeat (first | exact Sub.nil | apply Sub.cons rfl | refine Sub.cons_eq rfl (by simp only [v8, cond_true, cond_false]) ?_)) (fun w' hw' => by first | exact hw' | (simp only [v8, cond_true, cond_false]; exact hw'))
   ·cases ho
    have h7 : e 7 = true := hd ⟨7, .data⟩ (by simp) rfl
    have h8 : e 8 = true := hd ⟨8, .data⟩ (by simp) rfl
    have v9 : Eng.upd e 9 9 = true := upd_eq
    have v7 : Eng.upd e 9 7 = true := upd_mono h7
    have v8 : Eng.upd e 9 8 = true := upd_mono h8
    simp only [hei, h7, h8, cond_true, cond_false]
    have hx9 := x.h9
    refine zgs ?_
    exact At.beside x (by repeat (first | exact Sub.nil | apply Sub.cons rfl | refine Sub.cons_eq rfl (by simp only [v9, v7, v8, cond_true, cond_false]) ?_)) (fun w' hw' => by first | exact hw' | (simp only [v9, v7, v8, cond_true, cond_false]; exact hw'))
   ·cases ho
    have h9 : e 9 = true := hd ⟨9, .data⟩ (by simp) rfl
    have v10 : Eng.upd e 10 10 = true := upd_eq
    have v9 : Eng.upd e 10 9 = true := upd_mono h9
    simp only [hei, h9, cond_true, cond_false]
    have hx9 := x.h9
    refine zgs ?_
    exact At.beside x (by repeat (first | exact Sub.nil | apply Sub.cons rfl | refine Sub.cons_eq rfl (by simp only [v10, v9, cond_true, cond_false]) ?_)) (fun w' hw' => by first | exact hw' | (simp only [v10, v9, cond_true, cond_false]; exact hw'))
   ·cases ho
    have h10 : e 10 = true := hd ⟨10, .data⟩ (by simp) rfl
    have v11 : Eng.upd e 11 11 = true := upd_eq
    have v10 : Eng.upd e 11 10 = true := upd_mono h10
    simp only [hei, h10, cond_true, cond_false]
    have hx9 := x.h9
    refine zgs ?_
    exact At.beside x (by repeat (first | exact Sub.nil | apply Sub.cons rfl | refine Sub.cons_eq rfl (by simp only [v11, v10, cond_true, cond_false]) ?_)) (fun w' hw' => by first | exact hw' | (simp only [v11, v10, cond_true, cond_false]; exact hw'))
   ·cases ho
    have h1 : e 1 = true := hd ⟨1, .data⟩ (by simp) rfl
    have h3 : e 3 = true := hd ⟨3, .data⟩ (by simp) rfl
    have h11 : e 11 = true := hd ⟨11, .data⟩ (by simp) rfl
    have v12 : Eng.upd e 12 12 = true := upd_eq
    have v1 : Eng.upd e 12 1 = true := upd_mono h1
    have v3 : Eng.upd e 12 3 = true := upd_mono h3
    have v11 : Eng.upd e 12 11 = true := upd_mono h11
    simp only [hei, h1, h3, h11, cond_true, cond_false]
    have hx9 := x.h9
    (((first | apply OL.op | apply QL.op); exact Guard.au; rfl; rfl); (exact Pev.call (v := .tuple #[.agg (pC (pw V)).toArray, .int .i64 0]) rfl (by exact Args.au) (fun _ w2 hw2 => (binary_calls i.n u.n v.n (by omega) (by omega) w2).mono (fun e w3 h => ⟨by rw [h.1, hbin], hw2.ext h.2⟩))))
    apply OL.nil
    exact At.beside x (by repeat (first | exact Sub.nil | apply Sub.cons rfl | refine Sub.cons_eq rfl (by simp only [v12, v1, v3, v11, cond_true, cond_false]) ?_)) (fun w' hw' => by first | exact hw' | (simp only [v12, v1, v3, v11, cond_true, cond_false]; exact hw'))
   ·cases ho
    have h12 : e 12 = true := hd ⟨12, .data⟩ (by simp) rfl
    have v13 : Eng.upd e 13 13 = true := upd_eq
    have v12 : Eng.upd e 13 12 = true := upd_mono h12
    simp only [hei, h12, cond_true, cond_false]
    have hx9 := x.h9
    refine zgs ?_
    exact At.beside x (by repeat (first | exact Sub.nil | apply Sub.cons rfl | refine Sub.cons_eq rfl (by simp only [v13, v12, cond_true, cond_false]) ?_)) (fun w' hw' => by first | exact hw' | (simp only [v13, v12, cond_true, cond_false]; exact hw'))
   ·cases ho
    have h13 : e 13 = true := hd ⟨13, .data⟩ (by simp) rfl
    have v14 : Eng.upd e 14 14 = true := upd_eq
    have v13 : Eng.upd e 14 13 = true := upd_mono h13
    simp only [hei, h13, cond_true, cond_false]
    have hx9 := x.h9
    refine zgs ?_
    exact At.beside x (by repeat (first | exact Sub.nil | apply Sub.cons rfl | refine Sub.cons_eq rfl (by simp only [v14, v13, cond_true, cond_false]) ?_)) (fun w' hw' => by first | exact hw' | (simp only [v14, v13, cond_true, cond_false]; exact hw'))
   ·cases ho
    have h13 : e 13 = true := hd ⟨13, .data⟩ (by simp) rfl
    have v15 : Eng.upd e 15 15 = true := upd_eq
    have v13 : Eng.upd e 15 13 = true := upd_mono h13
    simp only [hei, h13, cond_true, cond_false]
    have hx9 := x.h9
    refine zgs ?_
    exact At.beside x (by repeat (first | exact Sub.nil | apply Sub.cons rfl | refine Sub.cons_eq rfl (by simp only [v15, v13, cond_true, cond_false]) ?_)) (fun w' hw' => by first | exact hw' | (simp only [v15, v13, cond_true, cond_false]; exact hw'))
   ·cases ho
    have h17 : e 17 = false := hcl.not (i := 16) (j := 17) rfl hei (by kernel_rfl)
    have v16 : Eng.upd e 16 16 = true := upd_eq
    have v17 : Eng.upd e 16 17 = false := h17
    simp only [hei, h17, cond_true, cond_false]
    have hx9 := x.h9
    apply OL.alloc; rfl; rfl; exact CellsL.agg; (intro bk hbk; simp only [AllLe, and_true] at hbk)
    apply OL.nil
    exact At.beside { x with b9 := bk, h9 := hbk } (by repeat (first | exact Sub.nil | apply Sub.cons rfl | refine Sub.cons_eq rfl (by simp only [v16, v17, cond_true, cond_false]) ?_)) (fun w' hw' => by simp only [v16, v17, cond_true, cond_false]; exact Cls.fill (p := 5) (H := _ :: _ :: _ :: _ :: _ :: _ :: []) (.s (.s (.s (.s (.s .z))))) hw')
   ·cases ho
    have h14 : e 14 = true := hd ⟨14, .data⟩ (by simp) rfl
    have h16 : e 16 = true := hd ⟨16, .data⟩ (by simp) rfl
    have v17 : Eng.upd e 17 17 = true := upd_eq
    have v14 : Eng.upd e 17 14 = true := upd_mono h14
    have v16 : Eng.upd e 17 16 = true := upd_mono h16
    simp only [hei, h14, h16, cond_true, cond_false]
    have hx9 := x.h9
    refine zgs ?_
    exact At.beside x (by repeat (first | exact Sub.nil | apply Sub.cons rfl | refine Sub.cons_eq rfl (by simp only [v17, v14, v16, cond_true, cond_false]) ?_)) (fun w' hw' => by first | exact hw' | (simp only [v17, v14, v16, cond_true, cond_false]; exact hw'))
   ·cases ho
    have h15 : e 15 = true := hd ⟨15, .data⟩ (by simp) rfl
    have h17 : e 17 = true := hd ⟨17, .chain⟩ (by simp) rfl
    have v18 : Eng.upd e 18 18 = true := upd_eq
    have v15 : Eng.upd e 18 15 = true := upd_mono h15
    have v17 : Eng.upd e 18 17 = true := upd_mono h17
    simp only [hei, h15, h17, cond_true, cond_false]
    have hx9 := x.h9
    refine zgs ?_
    exact At.beside x (by repeat (first | exact Sub.nil | apply Sub.cons rfl | refine Sub.cons_eq rfl (by simp only [v18, v15, v17, cond_true, cond_false]) ?_)) (fun w' hw' => by first | exact hw' | (simp only [v18, v15, v17, cond_true, cond_false]; exact hw'))
  ·intro x e hall
   obtain ⟨b9, hb9, old⟩ := x
   simp only [hall 0 (by decide), hall 1 (by decide), hall 2 (by decide), hall 3 (by decide), hall 4 (by decide), hall 5 (by decide), hall 6 (by decide), hall 7 (by decide), hall 8 (by decide), hall 9 (by decide), hall 10 (by decide), hall 11 (by decide), hall 12 (by decide), hall 13 (by decide), hall 14 (by decide), hall 15 (by decide), hall 16 (by decide), hall 17 (by decide), hall 18 (by decide), cond_true, cond_false]
   refine zgs ?_
   apply OL.buildSlice; rfl; rfl; rfl; exact Elems.au; rfl; rfl; (intro bk hbk; simp only [AllLe, and_true] at hbk)
   apply OL.append; rfl; rfl; rfl; rfl; exact Hole.au; exact .head _; exact Take.au; rfl; rfl; exact ⟨_, .head _, Nat.le_refl _⟩; omega; intro O1 g1 cap1
   refine zgs ?_
   have htl : (Z.take j).length = j := by rw [List.length_take]; omega
   refine At.again (j + 1, ⟨O1, some ⟨g1, 0, none⟩, cap1⟩) (by simp only; omega) (by simp only; omega) (by exact Sub.au) (fun w' hw' => ?_)
   simp only [htk, cat_append, cat_one]
   exact hw'.thin (.any (fun k hk => by rw [show k = bk from hk]; exact ⟨hbk, trivial⟩) (.any (fun k hk => by rw [show k = b8 from hk]; exact ⟨hb8, trivial⟩) (.keep (.keep (.keep (.keep (.any (fun k hk => by rw [show k = b9 from hk]; exact ⟨hb9, trivial⟩) Thin.nil)))))))
 ·refine zgs ?_
  exact At.finCT (b := b4) (cs := [.int .i64 4, .int .i64 0, .slice q' j c', .pointer none]) rfl rfl (by exact mau) rfl rfl rfl (fun w' hw' => by
   obtain rfl : j = p0.l.length := by omega
   rw [List.take_of_length_le (by omega)] at hw'
   refine ⟨hw'.toExt (by exact mau) (fun k hk => NotOwned.row (by omega) (NotOwned.blk (by omega) (NotOwned.blk (by omega) (NotOwned.blk (by omega) NotOwned.nil)))), .inr ⟨hc, .mk 4 0 q' c' 0 Z, rfl, rfl, hZ.symm, ?_, ?_⟩⟩
   ·rw [← hZl]
    rfl
   ·exact rowPV (hw'.item (.head _)) hZl (fun p hp => by
     rw [← hZ] at hp
     obtain ⟨i, _, rfl⟩ := zipPV hp
     exact PVO.flat) (by omega) (fun k hk => ⟨hk.1, hw'.lt _ (.head _) k hk⟩))
end Go.Proofs.Ytehelljmaiophaa.ss

/- The walks of ssa's machine: its steps and frames. Conditions: none. -/
namespace Go.Ss
open Go.Eng Go.RowKit
abbrev VM := List (Int × PV)
def mc (m : VM) : MI := m.map fun p => (p.1, .agg (pC p.2).toArray)
def pget : VM → Int → PV
 | [], _ => zP
 | p :: r, k => if p.1 = k then p.2 else pget r k
def pput : VM → Int → PV → VM
 | [], k, v => [(k, v)]
 | p :: r, k, v => if p.1 = k then (k, v) :: r else p :: pput r k v
theorem pget_pput (m : VM) (k : Int) (v : PV) (j : Int) : pget (pput m k v) j = if k = j then v else pget m j := by
 induction m with
 | nil => simp [pput, pget]
 | cons p r ih =>
  unfold pput
  by_cases h : p.1 = k
  ·rw [if_pos h]
   simp only [pget, h]
   split <;> simp_all
  ·rw [if_neg h]
   simp only [pget, ih]
   by_cases h2 : p.1 = j
   ·rw [if_pos h2, if_pos h2, if_neg (fun e => h (h2.trans e.symm))]
   ·rw [if_neg h2, if_neg h2]
theorem iget_mc : ∀ (m : VM) (k : Int), (iget (mc m) k).getD (.agg #[.int .i64 0, .int .i64 0, .slice none 0 0, .pointer none]) = .agg (pC (pget m k)).toArray
 | [], k => rfl
 | p :: r, k => by
  simp only [mc, List.map_cons, iget, pget]
  by_cases h : p.1 = k
  ·rw [if_pos h, if_pos h]; rfl
  ·rw [if_neg h, if_neg h]; exact iget_mc r k
theorem iput_mc : ∀ (m : VM) (k : Int) (v : PV), iput (mc m) k (.agg (pC v).toArray) = mc (pput m k v)
 | [], k, v => rfl
 | p :: r, k, v => by
  simp only [mc, List.map_cons, iput, pput]
  by_cases h : p.1 = k
  ·rw [if_pos h, if_pos h]; rfl
  ·rw [if_neg h, if_neg h]
   have := iput_mc r k v
   simp only [mc] at this
   rw [this]; rfl
def frC (fn bk at_ : Nat) (to_ : Int) (bm : Nat) : List Value := [.int .i64 (fn : Int), .int .i64 (bk : Int), .int .i64 (at_ : Int), .int .i64 to_, .map (some bm)]
end Go.Ss
namespace Go.Proofs.Ytehelljmaiophaa.ss
set_option maxRecDepth 100000
open Go.Eng Go.RowKit Go.Ss
theorem take_calls (bf bm fn bk at_ : Nat) (to_ : Int) (m : VM) (q : Option Addr) (cap : Nat) (l : List Int) (H : List Eng.Item) (S : List World) (s0 : World) (hs0 : s0 ∈ S) (hno : ∀ k, k < s0.heap.size → NotOwned H k) (hbf : s0.heap.size ≤ bf) (hbm : s0.heap.size ≤ bm) (hl : l.length ≤ 1000000) (hI : IntsO s0 (low s0) l q) (w : World)
  (hc : Cls (blk bf 195 (frC fn bk at_ to_ bm) :: mapI bm (mc m) :: H) S w) :
  Calls Try.prog 139 [.pointer (some ⟨bf, 0, none⟩), .slice q l.length cap].toArray w fun e w' => ∃ b, AllLe S b ∧ e = .returned (.slice (some ⟨b, 0, none⟩) l.length l.length) ∧ Cls (blk b 198 (cat pC (l.map (pget m))) :: blk bf 195 (frC fn bk at_ to_ bm) :: mapI bm (mc m) :: H) S w' := by
 unfold frC at hc ⊢
 refine enter Try.func139 rfl Try.ntmps139 rfl hc (zen ?_)
 refine zgs ?_
 (apply OL.makeSliceK (f := pC) (x0 := zP) (m := l.length)); rfl; rfl; rfl; rfl; rfl; rfl; rfl; rfl; (omega)
 intro bt hbt
 refine zgs ?_
 refine W.loop (G := Nat) (fun i => i ≤ l.length) (fun i => l.length - i)
  (fun i => [(0, true, .pointer (some ⟨bf, 0, none⟩)), (5, true, .slice (some ⟨bt, 0, none⟩) l.length l.length), (11, true, .slice q l.length cap), (12, true, .int .i64 (l.length : Int)), (13, true, .int .i64 (i : Int))])
  (fun i => Cls (blk bt 198 (cat pC ((l.take i).map (pget m) ++ List.replicate (l.length - i) zP)) :: blk bf 195 [.int .i64 (fn : Int), .int .i64 (bk : Int), .int .i64 (at_ : Int), .int .i64 to_, .map (some bm)] :: mapI bm (mc m) :: H) S) 0 (by omega) (by exact Sub.au) (fun w' hw' => hw') ?_
 intro i hi
 have hbt0 : s0.heap.size ≤ bt := hbt.mem s0 hs0
 refine zgs ?_
 refine W.cnd ?_ ?_ <;> intro hlt <;> try exact zwx hlt
 ·have hil : i < l.length := by omega
  obtain ⟨a, u, hqa, hab, hu, hcell⟩ := hI.get hil
  have hab : a.block < s0.heap.size := hab
  rw [hqa]
  refine zgs ?_
  (((first | apply OL.op | apply QL.op); exact Guard.au; rfl; rfl); (exact Pev.ilookup rfl g_c rfl g_c rfl rfl (fun w hw => hw.item (by exact mau))))
  rw [iget_mc]
  refine zgs ?_
  refine OL.storeL (vs := pC (pget m u)) (cs := cat pC ((l.take i).map (pget m) ++ List.replicate (l.length - i) zP)) rfl rfl rfl rfl rfl rfl ⟨?_, rfl⟩ (by exact Swap.au) ?_
  ·rw [cat_length (f := pC) (sz := 4) (fun _ => rfl)]
   simp [pC]
   omega
  rw [show 0 + (i : Int).toNat * 4 = i * 4 by omega, cat_set (f := pC) (sz := 4) (fun _ => rfl) (by omega) (by simp; omega)]
  refine zgs ?_
  refine At.again (i + 1) (by omega) (by omega) (by exact Sub.au) (fun w' hw' => ?_)
  have e : ((l.take i).map (pget m) ++ List.replicate (l.length - i) zP).set i (pget m u) = (l.take (i + 1)).map (pget m) ++ List.replicate (l.length - (i + 1)) zP := by
   rw [List.take_add_one, hu, Option.toList_some, List.map_append, List.map_singleton, List.set_append_right _ _ (by simp; omega), List.length_map, List.length_take, Nat.min_eq_left (by omega), Nat.sub_self, List.append_assoc]
   congr 1
   rw [show l.length - i = (l.length - (i + 1)) + 1 by omega, List.replicate_succ]
   rfl
  rw [e] at hw'
  exact hw'
 ·obtain rfl : i = l.length := by omega
  refine zgs ?_
  (refine zfn ?_; intro w' hw')
  refine ⟨bt, hbt, rfl, ?_⟩
  rw [List.take_length, Nat.sub_self, List.replicate_zero, List.append_nil] at hw'
  exact hw'
end Go.Proofs.Ytehelljmaiophaa.ss

/- The walks of ssa's machine: pay, stop, choice, enter, follow, leave. Conditions: none. -/
namespace Go.Ss
open Go.Eng Go.RowKit
structure MS where
 qF : Option Addr
 nF : Nat
 cF : Nat
 main : Int
 qs : Option Addr
 ns : Nat
 cs : Nat
 left : Int
 sh : Bool
 ov : Bool
 qo : Option Addr
 no : Nat
 co : Nat
 en : Int
 va : Int
def MS.c (m : MS) : List Value := [.slice m.qF m.nF m.cF, .int .i64 m.main, .slice m.qs m.ns m.cs, .int .i64 m.left, .bool m.sh, .bool m.ov, .slice m.qo m.no m.co, .int .i64 m.en, .int .i64 m.va]
theorem idxN_bd (v : Int) : ∀ (l : List Int) (i : Nat), -1 ≤ idxN v l i
 | [], i => by simp [idxN]
 | c :: r, i => by
  rw [idxN]
  split
  ·omega
  ·exact idxN_bd v r (i + 1)
theorem idxI_N (v : Int) : ∀ (l : List Int) (i : Nat), (idxI v l i : Int) = if 0 ≤ idxN v l i then idxN v l i else (i + l.length : Nat)
 | [], i => by simp [idxN, idxI]
 | c :: r, i => by
  rw [idxN, idxI]
  by_cases h : v = c
  ·rw [if_pos h.symm, if_pos h, if_pos (by omega)]
  ·rw [if_neg (fun e => h e.symm), if_neg h, idxI_N v r (i + 1)]
   split
   ·rfl
   ·simp only [List.length_cons]; omega
end Go.Ss
namespace Go.Proofs.Ytehelljmaiophaa.ss
set_option maxRecDepth 100000
open Go.Eng Go.RowKit Go.Ss
theorem pay_ok (bm : Nat) (m : MS) (n : Int) (H : List Eng.Item) (S : List World) (w : World) (hn : 0 ≤ n) (hl : n ≤ m.left) (hb : m.left ≤ 1000000) (hc : Cls (blk bm 160 m.c :: H) S w) :
  Calls Try.prog 109 [.pointer (some ⟨bm, 0, none⟩), .int .i64 n].toArray w fun e w' => e = .returned (.tuple #[]) ∧ Cls (blk bm 160 { m with left := m.left - n }.c :: H) S w' := by
 unfold MS.c at hc ⊢
 refine enter Try.func109 rfl Try.ntmps109 rfl hc (zen ?_)
 refine zgs ?_
 refine W.cnd ?_ ?_ <;> intro h1 <;> try exact zwx h1
 refine zgs ?_
 exact At.end_ (At.fin0 rfl (fun w' hw' => ⟨rfl, hw'⟩))
theorem pay_no (bm : Nat) (m : MS) (n : Int) (H : List Eng.Item) (S : List World) (w : World) (hl : m.left < n) (hc : Cls (blk bm 160 m.c :: H) S w) :
  Calls Try.prog 109 [.pointer (some ⟨bm, 0, none⟩), .int .i64 n].toArray w fun e w' => e = .returned (.tuple #[]) ∧ Cls (blk bm 160 { m with sh := true, ov := true }.c :: H) S w' := by
 unfold MS.c at hc ⊢
 refine enter Try.func109 rfl Try.ntmps109 rfl hc (zen ?_)
 refine zgs ?_
 refine W.cnd ?_ ?_ <;> intro h1 <;> try exact zwx h1
 refine zgs ?_
 exact At.fin0 rfl (fun w' hw' => ⟨rfl, hw'⟩)
theorem stop_calls (bm : Nat) (m : MS) (en va : Int) (H : List Eng.Item) (S : List World) (w : World) (hc : Cls (blk bm 160 m.c :: H) S w) :
  Calls Try.prog 140 [.pointer (some ⟨bm, 0, none⟩), .int .i64 en, .int .i64 va].toArray w fun e w' => e = .returned (.tuple #[]) ∧ Cls (blk bm 160 { m with ov := true, en := en, va := va }.c :: H) S w' := by
 unfold MS.c at hc ⊢
 refine enter Try.func140 rfl Try.ntmps140 rfl hc (zen ?_)
 refine zgs ?_
 exact At.end_ (At.fin0 rfl (fun w' hw' => ⟨rfl, hw'⟩))
theorem choice_calls (t : Tm) (y : TmY) (n : Int) (w : World) (hk : t.kind = 2 ∨ t.kind = 3) (hcl : t.cases.length ≤ 1000000) (hI : IntsO w (low w) t.cases y.c.1) :
  Calls Try.prog 165 [.agg (tmC t y).toArray, .int .i64 n].toArray w fun e w' => e = .returned (.int .i64 (chooseE t n : Int)) ∧ Ext w w' := by
 obtain ⟨v, hv⟩ : ∃ v, chooseE t n = v := ⟨_, rfl⟩
 rw [hv]
 unfold chooseE at hv
 refine enter Try.func165 rfl Try.ntmps165 rfl (Cls.start w) (zen ?_)
 unfold tmC
 apply W.sr
 apply OL.box; rfl; rfl; exact CellsL.agg; (intro bk hbk; simp only [AllLe, and_true] at hbk)
 refine zgs ?_
 revert bk
 intro b2 hb2x
 have hb2 : w.heap.size ≤ b2 := by first | exact hb2x | exact hb2x.1
 refine W.cnd ?_ ?_ <;> intro h2 <;> try exact zwx h2
 ·rw [if_pos h2] at hv
  refine zgs ?_
  refine W.cnd ?_ ?_ <;> intro h0 <;> try exact zwx h0
  ·rw [if_neg h0] at hv
   refine zgs ?_
   (refine zfn ?_; intro w' hw')
   exact ⟨by rw [← hv]; rfl, hw'.toExt (by exact mau) (fun k hk => NotOwned.blk (by omega) NotOwned.nil)⟩
  ·rw [if_pos (by omega)] at hv
   refine zgs ?_
   (refine zfn ?_; intro w' hw')
   exact ⟨by rw [← hv]; rfl, hw'.toExt (by exact mau) (fun k hk => NotOwned.blk (by omega) NotOwned.nil)⟩
 rw [if_neg h2] at hv
 have hx := idxI_N n t.cases 0
 have hbd := idxN_bd n t.cases 0
 refine zgs ?_
 (((first | apply OL.op | apply QL.op); exact Guard.au; rfl; rfl); (exact Pev.call rfl (by exact Args.au) (fun _ w2 hw2 => (IIndex_calls y.c.1 y.c.2 t.cases n w2 (by omega) (hI.at hw2 (by exact mau) (fun k hk => NotOwned.blk (by omega) NotOwned.nil))).mono (fun e w3 h => ⟨h.1, hw2.ext h.2⟩))))
 refine zgs ?_
 refine W.cnd ?_ ?_ <;> intro h3 <;> try exact zwx h3
 ·refine zgs ?_
  (refine zfn ?_; intro w' hw')
  exact ⟨by rw [← hv, hx, if_pos (by omega)], hw'.toExt (by exact mau) (fun k hk => NotOwned.blk (by omega) NotOwned.nil)⟩
 ·refine zgs ?_
  (refine zfn ?_; intro w' hw')
  exact ⟨by rw [← hv, hx, if_neg (by omega), Nat.zero_add], hw'.toExt (by exact mau) (fun k hk => NotOwned.blk (by omega) NotOwned.nil)⟩
end Go.Proofs.Ytehelljmaiophaa.ss

/- The walks of ssa's machine: enter, follow, leave. Conditions: none. -/
namespace Go.Eng
theorem Cls.in2 {H : List Item} {S : List World} {w : World} {i a b : Item} (h : Cls (i :: a :: b :: H) S w) : Cls (a :: b :: i :: H) S w := h.perm (List.Perm.append_right H (List.perm_append_comm (l₁ := [i]) (l₂ := [a, b])))
end Go.Eng
namespace Go.Ss
open Go.Eng Go.RowKit
def pputs : VM → List Int → List PV → VM
 | m, p :: ps, v :: vs => pputs (pput m p v) ps vs
 | m, _, _ => m
theorem pputs_snoc : ∀ (m : VM) (ps : List Int) (vs : List PV) (i : Nat) (p : Int) (v : PV), ps[i]? = some p → vs[i]? = some v → pputs m (ps.take (i + 1)) (vs.take (i + 1)) = pput (pputs m (ps.take i) (vs.take i)) p v
 | m, [], vs, i, p, v, hp, _ => by simp at hp
 | m, _ :: _, [], i, p, v, _, hv => by simp at hv
 | m, p0 :: ps, v0 :: vs, 0, p, v, hp, hv => by
  obtain rfl := Option.some.inj hp
  obtain rfl := Option.some.inj hv
  simp [pputs]
 | m, p0 :: ps, v0 :: vs, i + 1, p, v, hp, hv => by
  simp only [List.take_succ_cons, pputs]
  exact pputs_snoc (pput m p0 v0) ps vs i p v hp hv
def ptrs (l : List Nat) : List Value := l.map fun b => .pointer (some ⟨b, 0, none⟩)
theorem ptrs_append (l m : List Nat) : ptrs (l ++ m) = ptrs l ++ ptrs m := by simp [ptrs]
theorem ptrs_len (l : List Nat) : (ptrs l).length = l.length := by simp [ptrs]
theorem ptrs_get {l : List Nat} {i b : Nat} (h : l[i]? = some b) : (ptrs l)[i]? = some (.pointer (some ⟨b, 0, none⟩)) := by simp [ptrs, h]
end Go.Ss
namespace Go.Proofs.Ytehelljmaiophaa.ss
set_option maxRecDepth 100000
open Go.Eng Go.RowKit Go.Ss
theorem enter_calls (s0 : World) (fns : List (Go.Ss.Fn × FnY)) (bm : Nat) (m : MS) (hu : Arr fnR s0 (low s0) fns m.qF) (hn : m.nF = fns.length) (fn : Nat) (p : Go.Ss.Fn × FnY) (hfn : fns[fn]? = some p) (b : Bk) (hb0 : p.1.blocks[0]? = some b) (vs : List PV) (q : Option Addr) (cap bt : Nat) (hlen : b.params.length = vs.length) (hl6 : vs.length ≤ 4096) (to_ : Int)
  (H : List Eng.Item) (S : List World) (hs0 : s0 ∈ S) (hno : ∀ k, k < s0.heap.size → NotOwned H k) (hbm : s0.heap.size ≤ bm) (hbt : vs ≠ [] → q = some ⟨bt, 0, none⟩ ∧ blk bt 198 (cat pC vs) ∈ H) (O : Nat → Prop) (B : Nat) (hbs : ∃ s ∈ S, B ≤ s.heap.size) (hB : s0.heap.size ≤ B) (ps : List Nat) (hps : ps.length = m.ns) (hp6 : m.ns ≤ 1000000) (w : World)
  (hc : Cls (blk bm 160 m.c :: row B O m.qs m.ns m.cs 192 1 (ptrs ps) :: H) S w) :
  Calls Try.prog 108 [.pointer (some ⟨bm, 0, none⟩), .int .i64 (fn : Int), .slice q vs.length cap, .int .i64 to_].toArray w fun e w' => ∃ (bf bp c' : Nat) (O' : Nat → Prop) (q' : Option Addr), (AllLe S bf ∧ AllLe S bp) ∧ e = .returned (.tuple #[]) ∧
   Cls (blk bf 195 (frC fn 0 0 to_ bp) :: mapI bp (mc (pputs [] b.params vs)) :: blk bm 160 { m with qs := q', ns := m.ns + 1, cs := c' }.c :: row B O' q' (m.ns + 1) c' 192 1 (ptrs (ps ++ [bf])) :: H) S w' := by
 obtain ⟨a, x, hqa, hab, hx, hcF, hok⟩ := hu.get (show fn < fns.length from (List.getElem?_eq_some_iff.1 hfn).1)
 rw [hfn] at hx
 obtain rfl := Option.some.inj hx
 have hfl := (List.getElem?_eq_some_iff.1 hfn).1
 have hab : a.block < s0.heap.size := hab
 have hcF : CellsAt s0 (a.add (fn * 2)) [.int .i64 p.1.name, .slice p.2.q p.1.blocks.length p.2.c] := hcF
 obtain ⟨es, hes, he⟩ := hok.b
 have hbl := (List.getElem?_eq_some_iff.1 hb0).1
 have hel : es.length = p.1.blocks.length := by rw [← hes, List.length_map]
 obtain ⟨a2, y, hq2, hab2, hy, hcB, hokB⟩ := he.get (show 0 < es.length by omega)
 have hyb : y.1 = b := by
  rw [← hes, List.getElem?_map, hy] at hb0
  exact Option.some.inj hb0
 subst hyb
 have hab2 : a2.block < s0.heap.size := hab2
 have hcB : CellsAt s0 (a2.add (0 * 7)) [.slice y.2.p.1 y.1.params.length y.2.p.2, .slice y.2.i.1 y.1.ins.length y.2.i.2, .int .i64 y.1.term.kind, .int .i64 y.1.term.arg, .int .i64 y.1.term.n, .slice y.2.t.c.1 y.1.term.cases.length y.2.t.c.2, .slice y.2.t.t.1 y.1.term.to_.length y.2.t.t.2] := hcB
 have hIp := hokB.p
 rw [hq2] at hcF
 obtain ⟨qF, nF, cF, main, qs, ns, cs, left, sh, ov, qo, no, co, en, va⟩ := m
 simp only [MS.c] at hc ⊢
 simp only at hn hu hps hp6 hqa
 subst hn hqa
 refine enter Try.func108 rfl Try.ntmps108 rfl hc (zen ?_)
 refine zgs ?_
 apply OL.imakeMap; rfl; rfl; (intro bk hbk; have hbk0 := hbk.mem s0 hs0)
 refine zgs ?_
 apply OL.box; rfl; rfl; exact CellsL.agg; (intro bk hbk; have hbk0 := hbk.mem s0 hs0)
 refine zgs ?_
 rename_i bp hbp hbp0
 revert hbk0
 revert bk
 intro bf hbf hbf0
 refine W.loop (G := Nat) (fun i => i ≤ vs.length) (fun i => vs.length - i)
  (fun i => [(0, true, .pointer (some ⟨bm, 0, none⟩)), (2, true, .slice q vs.length cap), (8, true, .pointer (some ⟨bf, 0, none⟩)), (27, true, .slice y.2.p.1 y.1.params.length y.2.p.2), (28, true, .int .i64 (y.1.params.length : Int)), (29, true, .int .i64 (i : Int))])
  (fun i => Cls (blk bf 195 [.int .i64 (fn : Int), .int .i64 0, .int .i64 0, .int .i64 to_, .map (some bp)] :: mapI bp (mc (pputs [] (y.1.params.take i) (vs.take i))) :: blk bm 160 [.slice (some a) fns.length cF, .int .i64 main, .slice qs ns cs, .int .i64 left, .bool sh, .bool ov, .slice qo no co, .int .i64 en, .int .i64 va] :: row B O qs ns cs 192 1 (ptrs ps) :: H) S) 0 (by omega) (by exact Sub.au) (fun w' hw' => hw') ?_
 intro i hi
 refine zgs ?_
 refine W.cnd ?_ ?_ <;> intro hlt <;> try exact zwx hlt
 ·have hil : i < vs.length := by omega
  obtain ⟨v, hv⟩ : ∃ v, vs[i]? = some v := ⟨_, List.getElem?_eq_getElem hil⟩
  obtain ⟨hqb, hmb⟩ := hbt (fun e => by rw [e] at hil; simp at hil)
  obtain ⟨ap, u, hqp, hap, hu1, hcp⟩ := hIp.get (show i < y.1.params.length by omega)
  have hap : ap.block < s0.heap.size := hap
  have hsn := pputs_snoc [] y.1.params vs i u v hu1 hv
  rw [hqp, hqb]
  refine zgs ?_
  apply W.regq; apply Split.s rfl; apply Split.s rfl; apply Split.s rfl; apply Split.s rfl; apply Split.s rfl; apply Split.s rfl; apply Split.s rfl; apply Split.s rfl; apply Split.s rfl; exact Split.z rfl; kernel_rfl; decide +kernel; exact fun w hw => hw.drew
  refine zgs ?_
  (((first | apply OL.op | apply QL.op); exact Guard.au; rfl; rfl); (exact Pev.load_blkE (vs := pC v) rfl g_c (.tail _ (.tail _ (.tail _ (.tail _ hmb)))) rfl rfl (fun _ jj x hj => by rw [show 0 + ((i : Nat) : Int).toNat * 4 = i * 4 by omega]; exact cat_get (f := pC) (sz := 4) (fun _ => rfl) hv jj x hj)))
  refine zgs ?_
  rw [iput_mc, ← hsn]
  exact At.again (i + 1) (by omega) (by omega) (by exact Sub.au) (fun w' hw' => hw')
 ·obtain rfl : i = vs.length := by omega
  rw [← hlen, List.take_length, hlen, List.take_length]
  refine zgs ?_
  apply OL.buildSlice; rfl; rfl; rfl; exact Elems.au; rfl; rfl; (intro bk hbk; have hbk0 := hbk.mem s0 hs0)
  apply OL.append; rfl; rfl; rfl; rfl; exact Hole.au; exact .head _; exact Take.au; rfl; rfl; assumption; omega; intro O1 g1 cap1
  refine zgs ?_
  refine At.end_ (At.fin0 rfl (fun w' hw' => ⟨bf, bp, cap1, O1, some ⟨g1, 0, none⟩, ⟨hbf, hbp⟩, rfl, ?_⟩))
  rw [ptrs_append]
  exact hw'.thin (.any (fun k hk => by rw [show k = bk from hk]; exact hbk) Thin.same)
theorem follow_calls (s0 : World) (fns : List (Go.Ss.Fn × FnY)) (bm : Nat) (m : MS) (hu : Arr fnR s0 (low s0) fns m.qF) (hn : m.nF = fns.length) (fn bk0 at_ : Nat) (to_ : Int) (bf bp : Nat) (mp : VM) (p : Go.Ss.Fn × FnY) (hfn : fns[fn]? = some p) (e : Ed) (ey : Sc) (he1 : e.args.length ≤ 1000000) (heI : IntsO s0 (low s0) e.args ey.1) (k : Nat) (hek : e.block = (k : Int)) (b : Bk) (hbk : p.1.blocks[k]? = some b) (hlen : b.params.length = e.args.length)
  (H : List Eng.Item) (S : List World) (hs0 : s0 ∈ S) (hno : ∀ k, k < s0.heap.size → NotOwned H k) (hbm : s0.heap.size ≤ bm) (hbf : s0.heap.size ≤ bf) (hbp : s0.heap.size ≤ bp) (w : World)
  (hc : Cls (blk bf 195 (frC fn bk0 at_ to_ bp) :: mapI bp (mc mp) :: blk bm 160 m.c :: H) S w) :
  Calls Try.prog 163 [.pointer (some ⟨bm, 0, none⟩), .pointer (some ⟨bf, 0, none⟩), .agg (edC e ey).toArray].toArray w fun r w' => r = .returned (.tuple #[]) ∧
   Cls (blk bf 195 (frC fn k 0 to_ bp) :: mapI bp (mc (pputs mp b.params (e.args.map (pget mp)))) :: blk bm 160 m.c :: H) S w' := by
 obtain ⟨a, x, hqa, hab, hx, hcF, hok⟩ := hu.get (show fn < fns.length from (List.getElem?_eq_some_iff.1 hfn).1)
 rw [hfn] at hx
 obtain rfl := Option.some.inj hx
 have hfl := (List.getElem?_eq_some_iff.1 hfn).1
 have hab : a.block < s0.heap.size := hab
 have hcF : CellsAt s0 (a.add (fn * 2)) [.int .i64 p.1.name, .slice p.2.q p.1.blocks.length p.2.c] := hcF
 obtain ⟨es, hes, he⟩ := hok.b
 have hbl := (List.getElem?_eq_some_iff.1 hbk).1
 have hel : es.length = p.1.blocks.length := by rw [← hes, List.length_map]
 obtain ⟨a2, y, hq2, hab2, hy, hcB, hokB⟩ := he.get (show k < es.length by omega)
 have hyb : y.1 = b := by
  rw [← hes, List.getElem?_map, hy] at hbk
  exact Option.some.inj hbk
 subst hyb
 have hab2 : a2.block < s0.heap.size := hab2
 have hcB : CellsAt s0 (a2.add (k * 7)) [.slice y.2.p.1 y.1.params.length y.2.p.2, .slice y.2.i.1 y.1.ins.length y.2.i.2, .int .i64 y.1.term.kind, .int .i64 y.1.term.arg, .int .i64 y.1.term.n, .slice y.2.t.c.1 y.1.term.cases.length y.2.t.c.2, .slice y.2.t.t.1 y.1.term.to_.length y.2.t.t.2] := hcB
 have hIp := hokB.p
 rw [hq2] at hcF
 obtain ⟨qF, nF, cF, main, qs, ns, cs, left, sh, ov, qo, no, co, en, va⟩ := m
 simp only [MS.c] at hc ⊢
 simp only at hn hu hqa
 subst hn hqa
 unfold frC at hc ⊢
 refine enter Try.func163 rfl Try.ntmps163 rfl hc (zen ?_)
 unfold edC
 rw [hek]
 apply W.sr
 apply OL.box; rfl; rfl; exact CellsL.agg; (intro bk hbk; have hbk0 := hbk.mem s0 hs0)
 refine zgs ?_
 rename_i he0
 revert hbk0
 revert bk
 intro be hbe hbe0
 refine OL.callE (α := Nat) (fun b => .slice (some ⟨b, 0, none⟩) e.args.length e.args.length) (fun b => AllLe S b) (fun b => Cls (blk b 198 (cat pC (e.args.map (pget mp))) :: blk bf 195 [.int .i64 (fn : Int), .int .i64 (bk0 : Int), .int .i64 (at_ : Int), .int .i64 to_, .map (some bp)] :: mapI bp (mc mp) :: blk be 105 [.int .i64 (k : Int), .slice ey.1 e.args.length ey.2] :: blk bm 160 [.slice (some a) fns.length cF, .int .i64 main, .slice qs ns cs, .int .i64 left, .bool sh, .bool ov, .slice qo no co, .int .i64 en, .int .i64 va] :: H) S) rfl rfl (by exact Args.au) (fun w2 hw2 => (take_calls bf bp fn bk0 at_ to_ mp ey.1 ey.2 e.args _ S s0 hs0 (fun k hk => NotOwned.blk (by omega) (NotOwned.blk (by omega) (hno k hk))) hbf hbp he1 heI w2 hw2.in2).mono fun e w3 ⟨b, h1, h2, h3⟩ => ⟨b, h2, h1, h3⟩) ?_
 intro bt hbt
 have hbt0 : s0.heap.size ≤ bt := hbt.mem s0 hs0
 refine zgs ?_
 apply W.regd0; decide +kernel; kernel_rfl; decide +kernel; exact fun w hw => hw.drew
 refine zgs ?_
 obtain ⟨vs, hvs⟩ : ∃ vs, e.args.map (pget mp) = vs := ⟨_, rfl⟩
 have hvl : vs.length = e.args.length := by rw [← hvs, List.length_map]
 rw [hvs]
 refine W.loop (G := Nat) (fun i => i ≤ vs.length) (fun i => vs.length - i)
  (fun i => [(1, true, .pointer (some ⟨bf, 0, none⟩)), (6, true, .slice (some ⟨bt, 0, none⟩) e.args.length e.args.length), (37, true, .slice y.2.p.1 y.1.params.length y.2.p.2), (38, true, .int .i64 (y.1.params.length : Int)), (39, true, .int .i64 (i : Int))])
  (fun i => Cls (blk bt 198 (cat pC vs) :: blk bf 195 [.int .i64 (fn : Int), .int .i64 (k : Int), .int .i64 0, .int .i64 to_, .map (some bp)] :: mapI bp (mc (pputs mp (y.1.params.take i) (vs.take i))) :: blk be 105 [.int .i64 (k : Int), .slice ey.1 e.args.length ey.2] :: blk bm 160 [.slice (some a) fns.length cF, .int .i64 main, .slice qs ns cs, .int .i64 left, .bool sh, .bool ov, .slice qo no co, .int .i64 en, .int .i64 va] :: H) S) 0 (by omega) (by exact Sub.au) (fun w' hw' => by simp only [List.take_zero, pputs]; exact hw') ?_
 intro i hi
 refine zgs ?_
 refine W.cnd ?_ ?_ <;> intro hlt <;> try exact zwx hlt
 ·have hil : i < vs.length := by omega
  obtain ⟨v, hv⟩ : ∃ v, vs[i]? = some v := ⟨_, List.getElem?_eq_getElem hil⟩
  obtain ⟨ap, u, hqp, hap, hu1, hcp⟩ := hIp.get (show i < y.1.params.length by omega)
  have hap : ap.block < s0.heap.size := hap
  have hsn := pputs_snoc mp y.1.params vs i u v hu1 hv
  rw [hqp]
  refine zgs ?_
  apply W.regq; apply Split.s rfl; apply Split.s rfl; apply Split.s rfl; apply Split.s rfl; apply Split.s rfl; apply Split.s rfl; apply Split.s rfl; apply Split.s rfl; apply Split.s rfl; exact Split.z rfl; kernel_rfl; decide +kernel; exact fun w hw => hw.drew
  refine zgs ?_
  (((first | apply OL.op | apply QL.op); exact Guard.au; rfl; rfl); (exact Pev.load_blkE (vs := pC v) rfl g_c (.head _) rfl rfl (fun _ jj x hj => by rw [show 0 + ((i : Nat) : Int).toNat * 4 = i * 4 by omega]; exact cat_get (f := pC) (sz := 4) (fun _ => rfl) hv jj x hj)))
  refine zgs ?_
  rw [iput_mc, ← hsn]
  exact At.again (i + 1) (by omega) (by omega) (by exact Sub.au) (fun w' hw' => hw')
 ·obtain rfl : i = vs.length := by omega
  rw [List.take_of_length_le (Nat.le_of_eq (by omega) : y.1.params.length ≤ vs.length), List.take_length]
  refine zgs ?_
  refine At.end_ (At.fin0 rfl (fun w' hw' => ⟨rfl, ?_⟩))
  exact hw'.thin (.any (fun k hk => by rw [show k = bt from hk]; exact hbt) (.keep (.keep (.any (fun k hk => by rw [show k = be from hk]; exact hbe) Thin.same))))
theorem leave_more (bm : Nat) (m : MS) (bf : Nat) (fC : List Value) (fn bk at_ : Nat) (to_ : Int) (bp : Nat) (hfC : fC = frC fn bk at_ to_ bp) (v : PV) (bg bq : Nat) (gn gk ga : Nat) (gt : Int) (mq : VM) (O : Nat → Prop) (B : Nat) (ps : List Nat) (hps : ps.length + 2 = m.ns) (hp6 : m.ns ≤ 1000000)
  (H : List Eng.Item) (S : List World) (s0 : World) (hs0 : s0 ∈ S) (w : World)
  (hc : Cls (blk bf 195 fC :: blk bg 195 (frC gn gk ga gt bq) :: mapI bq (mc mq) :: blk bm 160 m.c :: row B O m.qs m.ns m.cs 192 1 (ptrs (ps ++ [bg, bf])) :: H) S w) :
  Calls Try.prog 164 [.pointer (some ⟨bm, 0, none⟩), .pointer (some ⟨bf, 0, none⟩), .agg (pC v).toArray].toArray w fun r w' => r = .returned (.tuple #[]) ∧
   Cls (blk bf 195 fC :: blk bg 195 (frC gn gk ga gt bq) :: mapI bq (mc (pput mq to_ v)) :: blk bm 160 { m with ns := m.ns - 1 }.c :: row B O m.qs (m.ns - 1) m.cs 192 1 (ptrs (ps ++ [bg])) :: H) S w' := by
 subst hfC
 obtain ⟨qF, nF, cF, main, qs, ns, cs, left, sh, ov, qo, no, co, en, va⟩ := m
 simp only [MS.c, frC] at hc ⊢
 simp only at hps hp6
 refine enter Try.func164 rfl Try.ntmps164 rfl hc (zen ?_)
 obtain rfl : ns = ps.length + 2 := hps.symm
 refine W.fact (fun w2 hw2 => row_cap (hw2.item (.tail _ (.tail _ (.tail _ (.tail _ (.head _))))))) (fun hcw => ?_)
 refine W.fact (fun w2 hw2 => row_some (hw2.item (.tail _ (.tail _ (.tail _ (.tail _ (.head _)))))) (by omega)) ?_
 rintro ⟨gs, hgs⟩
 subst hgs
 have hI1 : ((ps.length + 2 : Nat) : Int) - 1 = ((ps.length + 1 : Nat) : Int) := by omega
 have hI2 : ((ps.length + 1 : Nat) : Int) - 1 = (ps.length : Int) := by omega
 apply W.sr
 apply OL.box; rfl; rfl; exact CellsL.agg; (intro bk hbk; have hbk0 := hbk.mem s0 hs0)
 apply OL.nx
 apply W.seq
 apply W.regq; apply Split.s rfl; apply Split.s rfl; apply Split.s rfl; apply Split.s rfl; apply Split.s rfl; apply Split.s rfl; apply Split.s rfl; apply Split.s rfl; apply Split.s rfl; apply Split.s rfl; apply Split.s rfl; apply Split.s rfl; apply Split.s rfl; apply Split.s rfl; exact Split.z rfl; kernel_rfl; decide +kernel; exact fun w hw => hw.drew
 apply qmv; rfl; rfl
 apply qmv; rfl; rfl
 apply qop; rfl; apply Pev.nil_ptr; rfl; exact yes
 apply qfa; rfl; rfl; rfl
 apply qld; rfl; rfl; apply List.Mem.tail; apply List.Mem.tail; exact .tail _ (.tail _ (.head _)); rfl; rfl
 apply qmv; rfl; rfl
 apply qop; rfl; apply Pev.nil_ptr; rfl; exact yes
 apply qfa; rfl; rfl; rfl
 apply qld; rfl; rfl; apply List.Mem.tail; apply List.Mem.tail; exact .tail _ (.tail _ (.head _)); rfl; rfl
 apply qop; rfl; apply Pev.len_slice; rfl; exact yes; rfl
 apply qbn; rfl; rfl; rfl; apply Bin.sub_in; omega
 apply qop; rfl; apply Pev.slice_hi; rfl; exact yes; rfl; exact yes; rfl; (first | exact (Int.toNat_of_nonneg (by omega)).symm | omega); intro hcond; omega
 apply qop; rfl; apply Pev.nil_ptr; rfl; exact yes
 apply qfa; rfl; rfl; rfl
 with_reducible apply QL.tail
 apply OL.storeB; rfl; rfl; exact CellsL.one rfl; rfl; rfl; rfl; exact Swap.au; exact Put.au
 apply OL.nx
 apply W.seq
 apply W.sr
 apply omv; rfl; rfl
 apply oop; rfl; apply Pev.nil_ptr; rfl; exact yes
 apply ofa; rfl; rfl; rfl
 apply old; rfl; rfl; apply List.Mem.tail; apply List.Mem.tail; exact .tail _ (.tail _ (.head _)); rfl; rfl
 apply oop; rfl; apply Pev.len_slice; rfl; exact yes; rfl
 apply obn; rfl; rfl; rfl; apply Bin.gtr
 apply OL.nx
 rw [hI1, Int.toNat_natCast]
 revert hbk0
 revert bk
 intro b5 hb5 hb50
 refine W.cond rfl (fun _ => ?_) (fun h => by simp at h)
 have hrv : (ptrs (ps ++ [bg, bf]))[0 + (ps.length : Int).toNat * 1]? = some (.pointer (some ⟨bg, 0, none⟩)) := by
  rw [show 0 + (ps.length : Int).toNat * 1 = ps.length by omega]
  exact ptrs_get (by simp)
 apply W.seq
 apply W.regq; apply Split.s rfl; apply Split.s rfl; apply Split.s rfl; apply Split.s rfl; apply Split.s rfl; apply Split.s rfl; apply Split.s rfl; apply Split.s rfl; apply Split.s rfl; apply Split.s rfl; apply Split.s rfl; apply Split.s rfl; apply Split.s rfl; apply Split.s rfl; apply Split.s rfl; apply Split.s rfl; apply Split.s rfl; apply Split.s rfl; apply Split.s rfl; apply Split.s rfl; exact Split.z rfl; kernel_rfl; decide +kernel; exact fun w hw => hw.drew
 apply qmv; rfl; rfl
 apply qop; rfl; apply Pev.nil_ptr; rfl; exact yes
 apply qfa; rfl; rfl; rfl
 apply qld; rfl; rfl; apply List.Mem.tail; apply List.Mem.tail; exact .tail _ (.tail _ (.head _)); rfl; rfl
 apply qmv; rfl; rfl
 apply qop; rfl; apply Pev.nil_ptr; rfl; exact yes
 apply qfa; rfl; rfl; rfl
 apply qld; rfl; rfl; apply List.Mem.tail; apply List.Mem.tail; exact .tail _ (.tail _ (.head _)); rfl; rfl
 apply qop; rfl; apply Pev.len_slice; rfl; exact yes; rfl
 apply qbn; rfl; rfl; rfl; apply Bin.sub_in; omega
 apply qop; rfl; apply Pev.idxB; rfl; exact yes; rfl; exact yes; rfl; intro hcond; omega; rfl
 rw [hI2]
 apply qop; rfl; apply Pev.load_row; rfl; exact yes; apply List.Mem.tail; apply List.Mem.tail; apply List.Mem.tail; exact .tail _ (.tail _ (.head _)); rfl; assumption
 apply qop; rfl; apply Pev.nil_ptr; rfl; exact yes
 apply qfa; rfl; rfl; rfl
 apply qld; rfl; rfl; exact .tail _ (.tail _ (.head _)); rfl; rfl
 apply qmv; rfl; rfl
 apply qop; rfl; apply Pev.nil_ptr; rfl; exact yes
 apply qfa; rfl; rfl; rfl
 apply qld; rfl; rfl; exact .tail _ (.head _); rfl; rfl
 apply qop; rfl; apply Pev.load_blkA; rfl; exact yes; exact .head _; rfl; exact Take.au
 with_reducible apply QL.tail
 apply OL.iput; rfl; rfl; rfl; rfl; exact Hole.au
 apply OL.nx
 refine W.rt ?_
 have e : iput (mc mq) to_ (.agg #[.int .i64 v.k, .int .i64 v.n, .slice v.q v.l.length v.cap, .pointer (if v.k = 3 then some ⟨v.b, 0, none⟩ else none)]) = mc (pput mq to_ v) := iput_mc mq to_ v
 rw [e]
 refine At.fin0 rfl (fun w' hw' => ⟨rfl, ?_⟩)
 have h1 := hw'.thin (.any (fun k hk => by rw [show k = b5 from hk]; exact hb5) Thin.same)
 exact h1.rowPop (ps.length + 1) (ptrs (ps ++ [bg])) (.s (.s (.s (.s .z)))) (by omega) (by
  rw [show ps ++ [bg, bf] = (ps ++ [bg]) ++ [bf] by simp, ptrs_append (ps ++ [bg]) [bf], Nat.mul_one, List.take_left' (by rw [ptrs_len]; simp)])
theorem leave_last (bm : Nat) (m : MS) (bf : Nat) (fC : List Value) (v : PV) (O : Nat → Prop) (B : Nat) (hns : m.ns = 1)
  (H : List Eng.Item) (S : List World) (s0 : World) (hs0 : s0 ∈ S) (w : World)
  (hc : Cls (blk bm 160 m.c :: row B O m.qs m.ns m.cs 192 1 (ptrs [bf]) :: H) S w) :
  Calls Try.prog 164 [.pointer (some ⟨bm, 0, none⟩), .pointer (some ⟨bf, 0, none⟩), .agg (pC v).toArray].toArray w fun r w' => r = .returned (.tuple #[]) ∧
   Cls (blk bm 160 { m with ns := 0, ov := true, en := 0, va := if v.k = 0 ∨ v.k = 1 then v.n else 0 }.c :: row B O m.qs 0 m.cs 192 1 [] :: H) S w' := by
 obtain ⟨qF, nF, cF, main, qs, ns, cs, left, sh, ov, qo, no, co, en, va⟩ := m
 simp only at hns
 subst hns
 simp only [MS.c] at hc ⊢
 refine enter Try.func164 rfl Try.ntmps164 rfl hc (zen ?_)
 refine W.fact (fun w2 hw2 => row_cap (hw2.item (.tail _ (.head _)))) (fun hcw => ?_)
 refine W.fact (fun w2 hw2 => row_some (hw2.item (.tail _ (.head _))) (by omega)) ?_
 rintro ⟨gs, hgs⟩
 subst hgs
 apply W.sr
 apply OL.box; rfl; rfl; exact CellsL.agg; (intro bk hbk; have hbk0 := hbk.mem s0 hs0)
 apply OL.nx
 apply W.seq
 apply W.regq; apply Split.s rfl; apply Split.s rfl; apply Split.s rfl; apply Split.s rfl; apply Split.s rfl; apply Split.s rfl; apply Split.s rfl; apply Split.s rfl; apply Split.s rfl; apply Split.s rfl; apply Split.s rfl; apply Split.s rfl; apply Split.s rfl; apply Split.s rfl; exact Split.z rfl; kernel_rfl; decide +kernel; exact fun w hw => hw.drew
 apply qmv; rfl; rfl
 apply qmv; rfl; rfl
 apply qop; rfl; apply Pev.nil_ptr; rfl; exact yes
 apply qfa; rfl; rfl; rfl
 apply qld; rfl; rfl; exact .tail _ (.head _); rfl; rfl
 apply qmv; rfl; rfl
 apply qop; rfl; apply Pev.nil_ptr; rfl; exact yes
 apply qfa; rfl; rfl; rfl
 apply qld; rfl; rfl; exact .tail _ (.head _); rfl; rfl
 apply qop; rfl; apply Pev.len_slice; rfl; exact yes; rfl
 apply qbn; rfl; rfl; rfl; apply Bin.sub_in; omega
 apply qop; rfl; apply Pev.slice_hi; rfl; exact yes; rfl; exact yes; rfl; rfl; intro hcond; omega
 apply qop; rfl; apply Pev.nil_ptr; rfl; exact yes
 apply qfa; rfl; rfl; rfl
 with_reducible apply QL.tail
 apply OL.storeB; rfl; rfl; exact CellsL.one rfl; rfl; rfl; rfl; exact Swap.au; exact Put.au
 apply OL.nx
 apply W.seq
 apply W.sr
 apply omv; rfl; rfl
 apply oop; rfl; apply Pev.nil_ptr; rfl; exact yes
 apply ofa; rfl; rfl; rfl
 apply old; rfl; rfl; exact .tail _ (.head _); rfl; rfl
 apply oop; rfl; apply Pev.len_slice; rfl; exact yes; rfl
 apply obn; rfl; rfl; rfl; apply Bin.gtr
 apply OL.nx
 revert hbk0
 revert bk
 intro b5 hb5 hb50
 refine W.cond rfl (fun h => by simp at h) (fun _ => ?_)
 apply W.sk
 apply W.sr
 apply oas; rfl; rfl
 apply OL.nx
 apply W.seq
 apply W.sr
 apply ofa; rfl; rfl; rfl
 apply old; rfl; rfl; exact .head _; rfl; rfl
 apply obn; rfl; rfl; rfl; apply Bin.eql
 apply omv; rfl; rfl
 apply ono; rfl; rfl; rfl; apply Pev.fld; rfl; exact yes; rfl
 apply ono; rfl; rfl; rfl; apply Pev.load_blk; rfl; exact fun h => h; exact .head _; rfl; rfl
 apply ono; rfl; rfl; rfl; apply Pev.bin; rfl; exact fun h => h; rfl; exact yes; intro hcond; apply Bin.eql
 apply oop; rfl; apply Pev.pick_or; rfl; exact yes; rfl; exact fun h => h
 apply OL.nx
 rw [show (1 - Nat.succ 0 : Nat) = 0 from rfl]
 by_cases hk : v.k = 0 ∨ v.k = 1
 ·refine W.cond rfl (fun _ => ?_) (fun h => by simp at h; omega)
  apply W.reg
  apply ofa; rfl; rfl; rfl
  apply old; rfl; rfl; exact .head _; rfl; rfl
  apply oas; rfl; rfl
  apply OL.nx
  apply W.reg
  apply omv; rfl; rfl
  apply omv; rfl; rfl
  refine OL.callE (α := Unit) (fun _ => .tuple #[]) (fun _ => True) (fun _ => Cls (blk bm 160 [.slice qF nF cF, .int .i64 main, .slice (some ⟨gs, 0, none⟩) 0 cs, .int .i64 left, .bool sh, .bool true, .slice qo no co, .int .i64 0, .int .i64 v.n] :: blk b5 198 (pC v) :: row B O (some ⟨gs, 0, none⟩) 1 cs 192 1 (ptrs [bf]) :: H) S) rfl rfl (by exact Args.au) (fun w2 hw2 => (stop_calls bm ⟨qF, nF, cF, main, some ⟨gs, 0, none⟩, 0, cs, left, sh, ov, qo, no, co, en, va⟩ 0 v.n _ S w2 (hw2.perm (List.Perm.swap _ _ _))).mono fun e w3 h => ⟨(), h.1, trivial, h.2⟩) ?_
  intro _ _
  apply OL.nil
  refine At.end_ (At.fin0 rfl (fun w' hw' => ⟨rfl, ?_⟩))
  rw [if_pos hk]
  have h1 := hw'.thin (.keep (.any (fun k hk => by rw [show k = b5 from hk]; exact hb5) Thin.same))
  exact h1.rowPop 0 [] (.s .z) (by omega) rfl
 ·refine W.cond rfl (fun h => by simp at h; omega) (fun _ => ?_)
  apply W.sk
  apply W.reg
  apply omv; rfl; rfl
  apply omv; rfl; rfl
  refine OL.callE (α := Unit) (fun _ => .tuple #[]) (fun _ => True) (fun _ => Cls (blk bm 160 [.slice qF nF cF, .int .i64 main, .slice (some ⟨gs, 0, none⟩) 0 cs, .int .i64 left, .bool sh, .bool true, .slice qo no co, .int .i64 0, .int .i64 0] :: blk b5 198 (pC v) :: row B O (some ⟨gs, 0, none⟩) 1 cs 192 1 (ptrs [bf]) :: H) S) rfl rfl (by exact Args.au) (fun w2 hw2 => (stop_calls bm ⟨qF, nF, cF, main, some ⟨gs, 0, none⟩, 0, cs, left, sh, ov, qo, no, co, en, va⟩ 0 0 _ S w2 (hw2.perm (List.Perm.swap _ _ _))).mono fun e w3 h => ⟨(), h.1, trivial, h.2⟩) ?_
  intro _ _
  apply OL.nil
  refine At.end_ (At.fin0 rfl (fun w' hw' => ⟨rfl, ?_⟩))
  rw [if_neg hk]
  have h1 := hw'.thin (.keep (.any (fun k hk => by rw [show k = b5 from hk]; exact hb5) Thin.same))
  exact h1.rowPop 0 [] (.s .z) (by omega) rfl
end Go.Proofs.Ytehelljmaiophaa.ss

/- The walks of ssa's machine: arrays. Conditions: none. -/
namespace Go.Proofs.Ytehelljmaiophaa.ss
set_option maxRecDepth 100000
open Go.Eng Go.RowKit Go.Ss
theorem alloc_calls (bm : Nat) (m : MS) (a0 a1 : PV) (H : List Eng.Item) (S : List World) (s0 : World) (hs0 : s0 ∈ S) (hsh : m.sh = false) (hl0 : 0 ≤ m.left) (hl6 : m.left ≤ 1000000) (w : World) (hc : Cls (blk bm 160 m.c :: H) S w) :
  Calls Try.prog 185 [.pointer (some ⟨bm, 0, none⟩), .agg (pC a0).toArray, .agg (pC a1).toArray].toArray w fun e w' =>
   (a0.k ≠ 0 ∧ e = .returned (.tuple #[.agg (pC zP).toArray, .int .i64 5]) ∧ Cls (blk bm 160 m.c :: H) S w') ∨
   (a0.k = 0 ∧ (a0.n < 0 ∨ 1024 < a0.n) ∧ e = .returned (.tuple #[.agg (pC zP).toArray, .int .i64 6]) ∧ Cls (blk bm 160 m.c :: H) S w') ∨
   (a0.k = 0 ∧ (0 ≤ a0.n ∧ a0.n ≤ 1024) ∧ m.left < a0.n ∧ e = .returned (.tuple #[.agg (pC zP).toArray, .int .i64 0]) ∧ Cls (blk bm 160 { m with sh := true, ov := true }.c :: H) S w') ∨
   (a0.k = 0 ∧ (0 ≤ a0.n ∧ a0.n ≤ 1024) ∧ a0.n ≤ m.left ∧ ∃ bx cb : Nat, (AllLe S bx ∧ AllLe S cb) ∧ e = .returned (.tuple #[.agg (pC (.mk 3 0 none 0 bx [])).toArray, .int .i64 0]) ∧
    Cls (blk bx 191 [.slice (some ⟨cb, 0, none⟩) a0.n.toNat a0.n.toNat] :: blk cb 198 (cat pC (List.replicate a0.n.toNat a1)) :: blk bm 160 { m with left := m.left - a0.n }.c :: H) S w') := by
 refine enter Try.func185 rfl Try.ntmps185 rfl hc (zen ?_)
 apply W.sr
 apply OL.box; rfl; rfl; exact CellsL.agg; (intro bk hbk; have hbk0 := hbk.mem s0 hs0)
 apply OL.box; rfl; rfl; exact CellsL.agg; (intro bk hbk; have hbk0 := hbk.mem s0 hs0)
 apply OL.alloc; rfl; rfl; exact CellsL.agg; (intro bk hbk; have hbk0 := hbk.mem s0 hs0)
 refine zgs ?_
 rename_i b4 hb4 hb40 b5 hb5 hb50
 revert hbk0
 revert bk
 intro b6 hb6 hb60
 refine W.cnd ?_ ?_ <;> intro h1 <;> try exact zwx h1
 ·refine zgs ?_
  refine At.finCT (b := b6) (cs := [.int .i64 0, .int .i64 0, .slice none 0 0, .pointer none]) rfl rfl (by exact mau) rfl rfl rfl (fun w' hw' => .inl ⟨h1, rfl, ?_⟩)
  exact hw'.thin (.any (fun k hk => by rw [show k = b6 from hk]; exact hb6) (.any (fun k hk => by rw [show k = b5 from hk]; exact hb5) (.any (fun k hk => by rw [show k = b4 from hk]; exact hb4) Thin.same)))
 have hk0 : a0.k = 0 := by omega
 refine zgs ?_
 by_cases h2 : a0.n < 0 ∨ 1024 < a0.n
 ·refine W.cond rfl (fun _ => ?_) (fun h => by simp at h; omega)
  refine zgs ?_
  refine At.finCT (b := b6) (cs := [.int .i64 0, .int .i64 0, .slice none 0 0, .pointer none]) rfl rfl (by exact mau) rfl rfl rfl (fun w' hw' => .inr (.inl ⟨hk0, h2, rfl, ?_⟩))
  exact hw'.thin (.any (fun k hk => by rw [show k = b6 from hk]; exact hb6) (.any (fun k hk => by rw [show k = b5 from hk]; exact hb5) (.any (fun k hk => by rw [show k = b4 from hk]; exact hb4) Thin.same)))
 refine W.cond rfl (fun h => by simp at h; omega) (fun _ => ?_)
 refine zgs ?_
 by_cases h3 : m.left < a0.n
 ·refine OL.callE (α := Unit) (fun _ => .tuple #[]) (fun _ => True) (fun _ => Cls (blk bm 160 [.slice m.qF m.nF m.cF, .int .i64 m.main, .slice m.qs m.ns m.cs, .int .i64 m.left, .bool true, .bool true, .slice m.qo m.no m.co, .int .i64 m.en, .int .i64 m.va] :: blk b6 198 [.int .i64 0, .int .i64 0, .slice none 0 0, .pointer none] :: blk b5 198 (pC a1) :: blk b4 198 (pC a0) :: H) S) rfl rfl (by exact Args.au) (fun w2 hw2 => (pay_no bm m a0.n _ S w2 h3 hw2.out3).mono fun e w3 h => ⟨(), h.1, trivial, h.2⟩) ?_
  intro _ _
  refine zgs ?_
  refine W.cond rfl (fun _ => ?_) (fun h => by simp at h)
  refine zgs ?_
  refine At.finCT (b := b6) (cs := [.int .i64 0, .int .i64 0, .slice none 0 0, .pointer none]) rfl rfl (by exact mau) rfl rfl rfl (fun w' hw' => .inr (.inr (.inl ⟨hk0, by omega, h3, rfl, ?_⟩)))
  exact hw'.thin (.keep (.any (fun k hk => by rw [show k = b6 from hk]; exact hb6) (.any (fun k hk => by rw [show k = b5 from hk]; exact hb5) (.any (fun k hk => by rw [show k = b4 from hk]; exact hb4) Thin.same))))
 obtain ⟨n, hn⟩ : ∃ n : Nat, a0.n = (n : Int) := ⟨a0.n.toNat, by omega⟩
 refine OL.callE (α := Unit) (fun _ => .tuple #[]) (fun _ => True) (fun _ => Cls (blk bm 160 [.slice m.qF m.nF m.cF, .int .i64 m.main, .slice m.qs m.ns m.cs, .int .i64 (m.left - a0.n), .bool false, .bool m.ov, .slice m.qo m.no m.co, .int .i64 m.en, .int .i64 m.va] :: blk b6 198 [.int .i64 0, .int .i64 0, .slice none 0 0, .pointer none] :: blk b5 198 (pC a1) :: blk b4 198 (pC a0) :: H) S) rfl rfl (by exact Args.au) (fun w2 hw2 => (pay_ok bm m a0.n _ S w2 (by omega) (by omega) hl6 hw2.out3).mono fun e w3 h => ⟨(), h.1, trivial, by rw [← hsh]; exact h.2⟩) ?_
 intro _ _
 refine zgs ?_
 refine W.cond rfl (fun h => by simp at h) (fun _ => ?_)
 rw [hn]
 refine zgs ?_
 (apply OL.makeSliceK (f := pC) (x0 := zP) (m := n)); rfl; rfl; rfl; rfl; rfl; rfl; (exact hn); (exact hn); (omega)
 intro cb hcb
 have hcb0 := hcb.mem s0 hs0
 apply OL.alloc; rfl; rfl; exact CellsL.one rfl; (intro bk hbk; have hbk0 := hbk.mem s0 hs0)
 refine zgs ?_
 revert hbk0
 revert bk
 intro bx hbx hbx0
 refine W.loop (G := Nat) (fun i => i ≤ n) (fun i => n - i)
  (fun i => [(5, true, .pointer (some ⟨b5, 0, none⟩)), (6, true, .pointer (some ⟨b6, 0, none⟩)), (8, true, .pointer (some ⟨bx, 0, none⟩)), (38, true, .int .i64 (n : Int)), (39, true, .int .i64 (i : Int))])
  (fun i => Cls (blk bx 191 [.slice (some ⟨cb, 0, none⟩) n n] :: blk cb 198 (cat pC (List.replicate i a1 ++ List.replicate (n - i) zP)) :: blk bm 160 [.slice m.qF m.nF m.cF, .int .i64 m.main, .slice m.qs m.ns m.cs, .int .i64 (m.left - n), .bool false, .bool m.ov, .slice m.qo m.no m.co, .int .i64 m.en, .int .i64 m.va] :: blk b6 198 [.int .i64 0, .int .i64 0, .slice none 0 0, .pointer none] :: blk b5 198 (pC a1) :: blk b4 198 (pC a0) :: H) S) 0 (by omega) (by exact Sub.au) (fun w' hw' => hw') ?_
 intro i hi
 refine zgs ?_
 refine W.cnd ?_ ?_ <;> intro hlt <;> try exact zwx hlt
 ·have hil : i < n := by omega
  refine zgs ?_
  refine OL.storeL (vs := pC a1) (cs := cat pC (List.replicate i a1 ++ List.replicate (n - i) zP)) rfl rfl rfl rfl rfl rfl ⟨?_, rfl⟩ (by exact Swap.au) ?_
  ·rw [cat_length (f := pC) (sz := 4) (fun _ => rfl)]
   simp [pC]
   omega
  rw [show 0 + (i : Int).toNat * 4 = i * 4 by omega, cat_set (f := pC) (sz := 4) (fun _ => rfl) (by omega) (by simp; omega)]
  refine zgs ?_
  refine At.again (i + 1) (by omega) (by omega) (by exact Sub.au) (fun w' hw' => ?_)
  have e : (List.replicate i a1 ++ List.replicate (n - i) zP).set i a1 = List.replicate (i + 1) a1 ++ List.replicate (n - (i + 1)) zP := by
   rw [List.set_append_right _ _ (by simp), List.length_replicate, Nat.sub_self, show n - i = (n - (i + 1)) + 1 by omega, List.replicate_succ, List.set_cons_zero, List.replicate_succ' (n := i), List.append_assoc]
   rfl
  rw [e] at hw'
  exact hw'
 ·obtain rfl : i = n := by omega
  refine zgs ?_
  refine At.finCT (b := b6) (cs := [.int .i64 3, .int .i64 0, .slice none 0 0, .pointer (some ⟨bx, 0, none⟩)]) rfl rfl (by exact mau) rfl rfl rfl (fun w' hw' => .inr (.inr (.inr ⟨hk0, by omega, by omega, bx, cb, ⟨hbx, hcb⟩, rfl, ?_⟩)))
  rw [Nat.sub_self, List.replicate_zero, List.append_nil] at hw'
  have h1 := hw'.thin (.keep (.keep (.keep (.any (fun k hk => by rw [show k = b6 from hk]; exact hb6) (.any (fun k hk => by rw [show k = b5 from hk]; exact hb5) (.any (fun k hk => by rw [show k = b4 from hk]; exact hb4) Thin.same))))))
  rw [Int.toNat_natCast]
  simp only [MS.c, hsh]
  exact h1
end Go.Proofs.Ytehelljmaiophaa.ss

/- The walks of ssa's machine: prints, checks, arrays. Conditions: none. -/
namespace Go.Ss
open Go.Eng Go.RowKit
theorem cat1C (a : PV) : cat pC [a] = [.int .i64 a.k, .int .i64 a.n, .slice a.q a.l.length a.cap, .pointer (if a.k = 3 then some ⟨a.b, 0, none⟩ else none)] := rfl
theorem cat2C (a b : PV) : cat pC [a, b] = [.int .i64 a.k, .int .i64 a.n, .slice a.q a.l.length a.cap, .pointer (if a.k = 3 then some ⟨a.b, 0, none⟩ else none), .int .i64 b.k, .int .i64 b.n, .slice b.q b.l.length b.cap, .pointer (if b.k = 3 then some ⟨b.b, 0, none⟩ else none)] := rfl
theorem cat3C (a b c : PV) : cat pC [a, b, c] = [.int .i64 a.k, .int .i64 a.n, .slice a.q a.l.length a.cap, .pointer (if a.k = 3 then some ⟨a.b, 0, none⟩ else none), .int .i64 b.k, .int .i64 b.n, .slice b.q b.l.length b.cap, .pointer (if b.k = 3 then some ⟨b.b, 0, none⟩ else none), .int .i64 c.k, .int .i64 c.n, .slice c.q c.l.length c.cap, .pointer (if c.k = 3 then some ⟨c.b, 0, none⟩ else none)] := rfl
theorem argArr {w : World} {b : Nat} {e : TypeId} {l : List PV} (hb : (blk b e (cat pC l)).holds w) (he : ∀ p ∈ l, PVO pF w (low w) p) : Arr (pvR pF) w (low w) (us l) (some ⟨b, 0, none⟩) := by
 refine arrBlk (R := pvR pF) (l := us l) (e := e) (by rw [cat_map]; exact hb) (fun p hp => ?_)
 obtain ⟨c, hc, rfl⟩ := List.mem_map.1 hp
 exact he c hc
end Go.Ss
namespace Go.Proofs.Ytehelljmaiophaa.ss
set_option maxRecDepth 100000
open Go.Eng Go.RowKit Go.Ss
structure XPri (S : List World) where
 bl : Nat
 hl : AllLe S bl
 g : Nat
 c : Nat
 O : Nat → Prop
 old : Nat → Value
theorem eff_print (bm : Nat) (i : Go.Ss.In) (iy : Sc) (hop : i.op = 15) (a0 : PV) (m : MS) (Oo : Nat → Prop) (B : Nat) (out : List Int) (hno : m.no = out.length) (hol : out.length ≤ 1000) (bt : Nat) (H : List Eng.Item) (S : List World) (s0 : World) (hs0 : s0 ∈ S) (hbs : ∃ s ∈ S, B ≤ s.heap.size) (w : World)
  (hc : Cls (blk bt 198 (cat pC [a0]) :: blk bm 160 m.c :: row B Oo m.qo m.no m.co 3 1 (ints out) :: H) S w) :
  Calls Try.prog 171 [.pointer (some ⟨bm, 0, none⟩), .agg (inC i iy).toArray, .slice (some ⟨bt, 0, none⟩) 1 1].toArray w fun e w' =>
   (a0.k ≠ 0 ∧ e = .returned (.tuple #[.agg (pC zP).toArray, .int .i64 5]) ∧ Cls (blk bt 198 (cat pC [a0]) :: blk bm 160 m.c :: row B Oo m.qo m.no m.co 3 1 (ints out) :: H) S w') ∨ (a0.k = 0 ∧ out.length = 1000 ∧ e = .returned (.tuple #[.agg (pC zP).toArray, .int .i64 6]) ∧ Cls (blk bt 198 (cat pC [a0]) :: blk bm 160 m.c :: row B Oo m.qo m.no m.co 3 1 (ints out) :: H) S w') ∨
   (a0.k = 0 ∧ out.length ≠ 1000 ∧ e = .returned (.tuple #[.agg (pC zP).toArray, .int .i64 0]) ∧ ∃ (O' : Nat → Prop) (q' : Option Addr) (c' : Nat), Cls (blk bt 198 (cat pC [a0]) :: blk bm 160 { m with qo := q', no := m.no + 1, co := c' }.c :: row B O' q' (m.no + 1) c' 3 1 (ints (out ++ [a0.n])) :: H) S w') := by
 rw [cat1C] at hc ⊢
 refine enter Try.func171 rfl Try.ntmps171 rfl hc (zen ?_)
 unfold inC
 apply W.sr
 apply OL.box; rfl; rfl; exact CellsL.agg; (intro bk hbk; have hbk0 := hbk.mem s0 hs0)
 apply OL.alloc; rfl; rfl; exact CellsL.agg; (intro bk hbk; have hbk0 := hbk.mem s0 hs0)
 refine zgs ?_
 rename_i b4 hb4 hb40
 revert hbk0
 revert bk
 intro b6 hb6 hb60
 refine W.cnd ?_ ?_ <;> intro s1 <;> try exact zwx s1
 refine zgs ?_
 refine W.cnd ?_ ?_ <;> intro s2 <;> try exact zwx s2
 ·refine zgs ?_
  exact At.finCT (b := b6) (cs := [.int .i64 0, .int .i64 0, .slice none 0 0, .pointer none]) rfl rfl (by exact mau) rfl rfl rfl (fun w' hw' => .inl ⟨s2, rfl, hw'.thin (.any (fun k hk => by rw [show k = b6 from hk]; exact hb6) (.any (fun k hk => by rw [show k = b4 from hk]; exact hb4) Thin.same))⟩)
 refine zgs ?_
 have hk0 : a0.k = 0 := by omega
 refine W.cnd ?_ ?_ <;> intro s3 <;> try exact zwx s3
 ·refine zgs ?_
  exact At.finCT (b := b6) (cs := [.int .i64 0, .int .i64 0, .slice none 0 0, .pointer none]) rfl rfl (by exact mau) rfl rfl rfl (fun w' hw' => .inr (.inl ⟨hk0, by omega, rfl, hw'.thin (.any (fun k hk => by rw [show k = b6 from hk]; exact hb6) (.any (fun k hk => by rw [show k = b4 from hk]; exact hb4) Thin.same))⟩))
 refine zgs ?_
 refine W.regany (X := XPri S) (fun x e => [(42, true, bif e 14 then .pointer (some ⟨bm, 0 + 6 + 0, none⟩) else x.old 42), (41, true, bif e 13 then .pointer (some ⟨bm, 0 + 6, none⟩) else x.old 41), (40, true, bif e 12 then .pointer (some ⟨bm, 0, none⟩) else x.old 40), (39, true, bif e 11 then .slice (some ⟨x.g, 0, none⟩) (m.no + 1) x.c else x.old 39), (38, true, bif e 10 then .slice (some ⟨x.bl, 0, none⟩) 1 1 else x.old 38), (37, true, bif e 9 then .int .i64 a0.n else x.old 37), (36, true, bif e 8 then .pointer (some ⟨bt, 0 + Int.toNat 0 * 4 + 1, none⟩) else x.old 36), (35, true, bif e 7 then .pointer (some ⟨bt, 0 + Int.toNat 0 * 4, none⟩) else x.old 35), (34, true, bif e 6 then .slice (some ⟨bt, 0, none⟩) 1 1 else x.old 34), (33, true, bif e 5 then .slice m.qo m.no m.co else x.old 33), (32, true, bif e 4 then .pointer (some ⟨bm, 0 + 6 + 0, none⟩) else x.old 32), (31, true, bif e 3 then .pointer (some ⟨bm, 0 + 6, none⟩) else x.old 31), (30, true, bif e 2 then .pointer (some ⟨bm, 0, none⟩) else x.old 30), (29, true, bif e 1 then .pointer (some ⟨bm, 0, none⟩) else x.old 29), (28, true, bif e 0 then .pointer (some ⟨bm, 0, none⟩) else x.old 28), (0, true, .pointer (some ⟨bm, 0, none⟩)), (2, true, .slice (some ⟨bt, 0, none⟩) 1 1), (4, true, .pointer (some ⟨b4, 0, none⟩)), (6, true, .pointer (some ⟨b6, 0, none⟩)), (7, true, .int .i64 0)])
  (fun x e => (bif e 10 then blk x.bl 3 [.int .i64 a0.n] else nothing) :: (blk b6 198 [.int .i64 0, .int .i64 0, .slice none 0 0, .pointer none]) :: (blk b4 85 [.int .i64 i.to_, .int .i64 i.op, .int .i64 i.n, .slice iy.1 i.args.length iy.2]) :: (blk bt 198 [.int .i64 a0.k, .int .i64 a0.n, .slice a0.q a0.l.length a0.cap, .pointer (if a0.k = 3 then some ⟨a0.b, 0, none⟩ else none)]) :: (bif e 15 then blk bm 160 [.slice m.qF m.nF m.cF, .int .i64 m.main, .slice m.qs m.ns m.cs, .int .i64 m.left, .bool m.sh, .bool m.ov, .slice (some ⟨x.g, 0, none⟩) (m.no + 1) x.c, .int .i64 m.en, .int .i64 m.va] else blk bm 160 m.c) :: (bif e 11 then row B x.O (some ⟨x.g, 0, none⟩) (m.no + 1) x.c 3 1 (ints out ++ [.int .i64 a0.n]) else row B Oo m.qo m.no m.co 3 1 (ints out)) :: H)
  (fun old => ⟨b6, hb6, 0, 0, fun _ => False, old⟩) (by kernel_rfl) (by kernel_rfl) (fun w hw => hw.drew) (fun old => by repeat (first | exact SubO.nil | apply SubO.cons rfl | refine SubO.old rfl ?_)) (fun old w' hw' => hw'.nothing_in) ?_ ?_
 ·intro x e i o ho hei hd hcl
  have hi : i < 16 := (List.getElem?_eq_some_iff.1 ho).1
  obtain rfl | rfl | rfl | rfl | rfl | rfl | rfl | rfl | rfl | rfl | rfl | rfl | rfl | rfl | rfl | rfl : i = 0 ∨ i = 1 ∨ i = 2 ∨ i = 3 ∨ i = 4 ∨ i = 5 ∨ i = 6 ∨ i = 7 ∨ i = 8 ∨ i = 9 ∨ i = 10 ∨ i = 11 ∨ i = 12 ∨ i = 13 ∨ i = 14 ∨ i = 15 := by omega
  ·cases ho
   have v0 : Eng.upd e 0 0 = true := upd_eq
   simp only [hei, cond_true, cond_false]
   refine zgs ?_
   exact At.beside x (by repeat (first | exact Sub.nil | apply Sub.cons rfl | refine Sub.cons_eq rfl (by simp only [v0, cond_true, cond_false]) ?_)) (fun w' hw' => by first | exact hw' | (simp only [v0, cond_true, cond_false]; exact hw'))
  ·cases ho
   have v1 : Eng.upd e 1 1 = true := upd_eq
   simp only [hei, cond_true, cond_false]
   refine zgs ?_
   exact At.beside x (by repeat (first | exact Sub.nil | apply Sub.cons rfl | refine Sub.cons_eq rfl (by simp only [v1, cond_true, cond_false]) ?_)) (fun w' hw' => by first | exact hw' | (simp only [v1, cond_true, cond_false]; exact hw'))
  ·cases ho
   have h1 : e 1 = true := hd ⟨1, .data⟩ (by simp) rfl
   have v2 : Eng.upd e 2 2 = true := upd_eq
   have v1 : Eng.upd e 2 1 = true := upd_mono h1
   simp only [hei, h1, cond_true, cond_false]
   refine zgs ?_
   exact At.beside x (by repeat (first | exact Sub.nil | apply Sub.cons rfl | refine Sub.cons_eq rfl (by simp only [v2, v1, cond_true, cond_false]) ?_)) (fun w' hw' => by first | exact hw' | (simp only [v2, v1, cond_true, cond_false]; exact hw'))
  ·cases ho
   have h2 : e 2 = true := hd ⟨2, .data⟩ (by simp) rfl
   have v3 : Eng.upd e 3 3 = true := upd_eq
   have v2 : Eng.upd e 3 2 = true := upd_mono h2
   simp only [hei, h2, cond_true, cond_false]
   refine zgs ?_
   exact At.beside x (by repeat (first | exact Sub.nil | apply Sub.cons rfl | refine Sub.cons_eq rfl (by simp only [v3, v2, cond_true, cond_false]) ?_)) (fun w' hw' => by first | exact hw' | (simp only [v3, v2, cond_true, cond_false]; exact hw'))
  ·cases ho
   have h3 : e 3 = true := hd ⟨3, .data⟩ (by simp) rfl
   have v4 : Eng.upd e 4 4 = true := upd_eq
   have v3 : Eng.upd e 4 3 = true := upd_mono h3
   simp only [hei, h3, cond_true, cond_false]
   refine zgs ?_
   exact At.beside x (by repeat (first | exact Sub.nil | apply Sub.cons rfl | refine Sub.cons_eq rfl (by simp only [v4, v3, cond_true, cond_false]) ?_)) (fun w' hw' => by first | exact hw' | (simp only [v4, v3, cond_true, cond_false]; exact hw'))
  ·cases ho
   have h4 : e 4 = true := hd ⟨4, .data⟩ (by simp) rfl
   have h15 : e 15 = false := hcl.not (i := 5) (j := 15) rfl hei (by kernel_rfl)
   have v5 : Eng.upd e 5 5 = true := upd_eq
   have v4 : Eng.upd e 5 4 = true := upd_mono h4
   have v15 : Eng.upd e 5 15 = false := h15
   simp only [hei, h4, h15, cond_true, cond_false]
   refine zgs ?_
   exact At.beside x (by repeat (first | exact Sub.nil | apply Sub.cons rfl | refine Sub.cons_eq rfl (by simp only [v5, v4, v15, cond_true, cond_false]) ?_)) (fun w' hw' => by first | exact hw' | (simp only [v5, v4, v15, cond_true, cond_false]; exact hw'))
  ·cases ho
   have v6 : Eng.upd e 6 6 = true := upd_eq
   simp only [hei, cond_true, cond_false]
   refine zgs ?_
   exact At.beside x (by repeat (first | exact Sub.nil | apply Sub.cons rfl | refine Sub.cons_eq rfl (by simp only [v6, cond_true, cond_false]) ?_)) (fun w' hw' => by first | exact hw' | (simp only [v6, cond_true, cond_false]; exact hw'))
  ·cases ho
   have h6 : e 6 = true := hd ⟨6, .data⟩ (by simp) rfl
   have v7 : Eng.upd e 7 7 = true := upd_eq
   have v6 : Eng.upd e 7 6 = true := upd_mono h6
   simp only [hei, h6, cond_true, cond_false]
   refine zgs ?_
   exact At.beside x (by repeat (first | exact Sub.nil | apply Sub.cons rfl | refine Sub.cons_eq rfl (by simp only [v7, v6, cond_true, cond_false]) ?_)) (fun w' hw' => by first | exact hw' | (simp only [v7, v6, cond_true, cond_false]; exact hw'))
  ·cases ho
   have h7 : e 7 = true := hd ⟨7, .data⟩ (by simp) rfl
   have v8 : Eng.upd e 8 8 = true := upd_eq
   have v7 : Eng.upd e 8 7 = true := upd_mono h7
   simp only [hei, h7, cond_true, cond_false]
   refine zgs ?_
   exact At.beside x (by repeat (first | exact Sub.nil | apply Sub.cons rfl | refine Sub.cons_eq rfl (by simp only [v8, v7, cond_true, cond_false]) ?_)) (fun w' hw' => by first | exact hw' | (simp only [v8, v7, cond_true, cond_false]; exact hw'))
  ·cases ho
   have h8 : e 8 = true := hd ⟨8, .data⟩ (by simp) rfl
   have v9 : Eng.upd e 9 9 = true := upd_eq
   have v8 : Eng.upd e 9 8 = true := upd_mono h8
   simp only [hei, h8, cond_true, cond_false]
   refine zgs ?_
   exact At.beside x (by repeat (first | exact Sub.nil | apply Sub.cons rfl | refine Sub.cons_eq rfl (by simp only [v9, v8, cond_true, cond_false]) ?_)) (fun w' hw' => by first | exact hw' | (simp only [v9, v8, cond_true, cond_false]; exact hw'))
  ·cases ho
   have h9 : e 9 = true := hd ⟨9, .data⟩ (by simp) rfl
   have h11 : e 11 = false := hcl.not (i := 10) (j := 11) rfl hei (by kernel_rfl)
   have v10 : Eng.upd e 10 10 = true := upd_eq
   have v9 : Eng.upd e 10 9 = true := upd_mono h9
   have v11 : Eng.upd e 10 11 = false := h11
   simp only [hei, h9, h11, cond_true, cond_false]
   apply OL.buildSlice; rfl; rfl; rfl; exact Elems.au; rfl; rfl; (intro bk hbk; have hbk0 := hbk.mem s0 hs0)
   apply OL.nil
   exact At.beside { x with bl := bk, hl := hbk } (by repeat (first | exact Sub.nil | apply Sub.cons rfl | refine Sub.cons_eq rfl (by simp only [v10, v9, v11, cond_true, cond_false]) ?_)) (fun w' hw' => by simp only [v10, v9, v11, cond_true, cond_false]; exact Cls.fill (p := 0) (H := _) .z hw')
  ·cases ho
   have h5 : e 5 = true := hd ⟨5, .data⟩ (by simp) rfl
   have h10 : e 10 = true := hd ⟨10, .data⟩ (by simp) rfl
   have h15 : e 15 = false := hcl.not (i := 11) (j := 15) rfl hei (by kernel_rfl)
   have v11 : Eng.upd e 11 11 = true := upd_eq
   have v5 : Eng.upd e 11 5 = true := upd_mono h5
   have v10 : Eng.upd e 11 10 = true := upd_mono h10
   have v15 : Eng.upd e 11 15 = false := h15
   simp only [hei, h5, h10, h15, cond_true, cond_false]
   have hx9 := x.hl
   apply OL.append; rfl; rfl; rfl; rfl; exact Hole.au; exact .head _; exact Take.au; rfl; rfl; assumption; omega; intro O1 g1 cap1
   apply OL.nil
   exact At.beside { x with g := g1, c := cap1, O := O1 } (by repeat (first | exact Sub.nil | apply Sub.cons rfl | refine Sub.cons_eq rfl (by simp only [v11, v5, v10, v15, cond_true, cond_false]) ?_)) (fun w' hw' => by first | exact hw' | (simp only [v11, v5, v10, v15, cond_true, cond_false]; exact hw'))
  ·cases ho
   have h0 : e 0 = true := hd ⟨0, .data⟩ (by simp) rfl
   have v12 : Eng.upd e 12 12 = true := upd_eq
   have v0 : Eng.upd e 12 0 = true := upd_mono h0
   simp only [hei, h0, cond_true, cond_false]
   refine zgs ?_
   exact At.beside x (by repeat (first | exact Sub.nil | apply Sub.cons rfl | refine Sub.cons_eq rfl (by simp only [v12, v0, cond_true, cond_false]) ?_)) (fun w' hw' => by first | exact hw' | (simp only [v12, v0, cond_true, cond_false]; exact hw'))
  ·cases ho
   have h12 : e 12 = true := hd ⟨12, .data⟩ (by simp) rfl
   have v13 : Eng.upd e 13 13 = true := upd_eq
   have v12 : Eng.upd e 13 12 = true := upd_mono h12
   simp only [hei, h12, cond_true, cond_false]
   refine zgs ?_
   exact At.beside x (by repeat (first | exact Sub.nil | apply Sub.cons rfl | refine Sub.cons_eq rfl (by simp only [v13, v12, cond_true, cond_false]) ?_)) (fun w' hw' => by first | exact hw' | (simp only [v13, v12, cond_true, cond_false]; exact hw'))
  ·cases ho
   have h13 : e 13 = true := hd ⟨13, .data⟩ (by simp) rfl
   have v14 : Eng.upd e 14 14 = true := upd_eq
   have v13 : Eng.upd e 14 13 = true := upd_mono h13
   simp only [hei, h13, cond_true, cond_false]
   refine zgs ?_
   exact At.beside x (by repeat (first | exact Sub.nil | apply Sub.cons rfl | refine Sub.cons_eq rfl (by simp only [v14, v13, cond_true, cond_false]) ?_)) (fun w' hw' => by first | exact hw' | (simp only [v14, v13, cond_true, cond_false]; exact hw'))
  ·cases ho
   have h11 : e 11 = true := hd ⟨11, .data⟩ (by simp) rfl
   have h14 : e 14 = true := hd ⟨14, .data⟩ (by simp) rfl
   have v15 : Eng.upd e 15 15 = true := upd_eq
   have v11 : Eng.upd e 15 11 = true := upd_mono h11
   have v14 : Eng.upd e 15 14 = true := upd_mono h14
   simp only [hei, h11, h14, cond_true, cond_false]
   refine zgs ?_
   exact At.beside x (by repeat (first | exact Sub.nil | apply Sub.cons rfl | refine Sub.cons_eq rfl (by simp only [v15, v11, v14, cond_true, cond_false]) ?_)) (fun w' hw' => by first | exact hw' | (simp only [v15, v11, v14, cond_true, cond_false]; exact hw'))
 ·intro x e hall
  obtain ⟨bl, hbl, g, c1, O1, old⟩ := x
  simp only [hall 0 (by decide), hall 1 (by decide), hall 2 (by decide), hall 3 (by decide), hall 4 (by decide), hall 5 (by decide), hall 6 (by decide), hall 7 (by decide), hall 8 (by decide), hall 9 (by decide), hall 10 (by decide), hall 11 (by decide), hall 12 (by decide), hall 13 (by decide), hall 14 (by decide), hall 15 (by decide), cond_true, cond_false]
  refine zgs ?_
  (((first | apply OL.op | apply QL.op); exact Guard.au; rfl; rfl); (exact Pev.call rfl (by exact Args.au) (fun _ w2 hw2 => (wordOf_calls _ w2).mono (fun e w3 h => ⟨h.1, hw2.ext h.2⟩))))
  refine zgs ?_
  exact At.finCT (b := b6) (cs := [.int .i64 0, .int .i64 0, .slice none 0 0, .pointer none]) rfl rfl (by exact mau) rfl rfl rfl (fun w' hw' => .inr (.inr ⟨hk0, by omega, rfl, O1, some ⟨g, 0, none⟩, c1, by
   rw [ints_append]
   exact hw'.thin (.any (fun k hk => by rw [show k = bl from hk]; exact hbl) (.any (fun k hk => by rw [show k = b6 from hk]; exact hb6) (.any (fun k hk => by rw [show k = b4 from hk]; exact hb4) Thin.same)))⟩))
theorem eff_check (bm : Nat) (i : Go.Ss.In) (iy : Sc) (hop : i.op = 18) (a0 a1 : PV) (bt : Nat) (H : List Eng.Item) (S : List World) (s0 : World) (hs0 : s0 ∈ S) (hok : ∀ w2, Cls (blk bt 198 (cat pC [a0, a1]) :: H) S w2 → ∀ p ∈ [a0, a1], PVO pF w2 (low w2) p) (w : World)
  (hc : Cls (blk bt 198 (cat pC [a0, a1]) :: H) S w) :
  Calls Try.prog 171 [.pointer (some ⟨bm, 0, none⟩), .agg (inC i iy).toArray, .slice (some ⟨bt, 0, none⟩) 2 2].toArray w fun e w' =>
   ((a0.k ≠ 0 ∨ a1.k ≠ 0) ∧ e = .returned (.tuple #[.agg (pC zP).toArray, .int .i64 5]) ∧ Cls (blk bt 198 (cat pC [a0, a1]) :: H) S w') ∨ (a0.k = 0 ∧ a1.k = 0 ∧ (a0.n < 0 ∨ a1.n ≤ a0.n) ∧ e = .returned (.tuple #[.agg (pC zP).toArray, .int .i64 2]) ∧ Cls (blk bt 198 (cat pC [a0, a1]) :: H) S w') ∨ (a0.k = 0 ∧ a1.k = 0 ∧ ¬ (a0.n < 0 ∨ a1.n ≤ a0.n) ∧ e = .returned (.tuple #[.agg (pC zP).toArray, .int .i64 0]) ∧ Cls (blk bt 198 (cat pC [a0, a1]) :: H) S w') := by
 rw [cat2C] at hc hok ⊢
 refine enter Try.func171 rfl Try.ntmps171 rfl hc (zen ?_)
 unfold inC
 apply W.sr
 apply OL.box; rfl; rfl; exact CellsL.agg; (intro bk hbk; have hbk0 := hbk.mem s0 hs0)
 apply OL.alloc; rfl; rfl; exact CellsL.agg; (intro bk hbk; have hbk0 := hbk.mem s0 hs0)
 refine zgs ?_
 rename_i b4 hb4 hb40
 revert hbk0
 revert bk
 intro b6 hb6 hb60
 refine W.cnd ?_ ?_ <;> intro s1 <;> try exact zwx s1
 refine zgs ?_
 refine W.cnd ?_ ?_ <;> intro s2 <;> try exact zwx s2
 refine zgs ?_
 refine W.cnd ?_ ?_ <;> intro s3 <;> try exact zwx s3
 refine zgs ?_
 (((first | apply OL.op | apply QL.op); exact Guard.au; rfl; rfl); (exact Pev.call (v := .bool (decide (a0.k = 0) && decide (a1.k = 0))) rfl (by exact Args.au) (fun _ w2 hw2 => (all_calls [a0, a1] (some ⟨bt, 0, none⟩) 2 0 w2 (by simp) (argArr (hw2.item (.tail _ (.tail _ (.head _)))) (hok w2 (hw2.thin (.any (fun k hk => by rw [show k = b6 from hk]; exact hb6) (.any (fun k hk => by rw [show k = b4 from hk]; exact hb4) Thin.same)))))).mono (fun e w3 h => ⟨by rw [h.1]; simp, hw2.ext h.2⟩))))
 refine zgs ?_
 by_cases h1 : a0.k = 0 ∧ a1.k = 0
 ·refine W.cond rfl (fun h => by simp at h; omega) (fun _ => ?_)
  refine zgs ?_
  apply W.regd0; decide +kernel; kernel_rfl; decide +kernel; exact fun w hw => hw.drew
  refine zgs ?_
  by_cases h2 : a0.n < 0 ∨ a1.n ≤ a0.n
  ·refine W.cond rfl (fun _ => ?_) (fun h => by simp at h; omega)
   refine zgs ?_
   exact At.finCT (b := b6) (cs := [.int .i64 0, .int .i64 0, .slice none 0 0, .pointer none]) rfl rfl (by exact mau) rfl rfl rfl (fun w' hw' => .inr (.inl ⟨h1.1, h1.2, h2, rfl, hw'.thin (.any (fun k hk => by rw [show k = b6 from hk]; exact hb6) (.any (fun k hk => by rw [show k = b4 from hk]; exact hb4) Thin.same))⟩))
  ·refine W.cond rfl (fun h => by simp at h; omega) (fun _ => ?_)
   refine zgs ?_
   (((first | apply OL.op | apply QL.op); exact Guard.au; rfl; rfl); (exact Pev.call rfl (by exact Args.au) (fun _ w2 hw2 => (wordOf_calls _ w2).mono (fun e w3 h => ⟨h.1, hw2.ext h.2⟩))))
   refine zgs ?_
   exact At.finCT (b := b6) (cs := [.int .i64 0, .int .i64 0, .slice none 0 0, .pointer none]) rfl rfl (by exact mau) rfl rfl rfl (fun w' hw' => .inr (.inr ⟨h1.1, h1.2, h2, rfl, hw'.thin (.any (fun k hk => by rw [show k = b6 from hk]; exact hb6) (.any (fun k hk => by rw [show k = b4 from hk]; exact hb4) Thin.same))⟩))
 ·refine W.cond rfl (fun _ => ?_) (fun h => by simp at h; omega)
  refine zgs ?_
  exact At.finCT (b := b6) (cs := [.int .i64 0, .int .i64 0, .slice none 0 0, .pointer none]) rfl rfl (by exact mau) rfl rfl rfl (fun w' hw' => .inl ⟨by omega, rfl, hw'.thin (.any (fun k hk => by rw [show k = b6 from hk]; exact hb6) (.any (fun k hk => by rw [show k = b4 from hk]; exact hb4) Thin.same))⟩)
theorem eff_bad1 (bm : Nat) (i : Go.Ss.In) (iy : Sc) (hop : i.op = 17) (a0 : PV) (hbad : a0.k ≠ 3) (bt : Nat) (H : List Eng.Item) (S : List World) (s0 : World) (hs0 : s0 ∈ S) (w : World)
  (hc : Cls (blk bt 198 (cat pC [a0]) :: H) S w) :
  Calls Try.prog 171 [.pointer (some ⟨bm, 0, none⟩), .agg (inC i iy).toArray, .slice (some ⟨bt, 0, none⟩) 1 1].toArray w fun e w' =>
   e = .returned (.tuple #[.agg (pC zP).toArray, .int .i64 5]) ∧ Cls (blk bt 198 (cat pC [a0]) :: H) S w' := by
 rw [cat1C] at hc ⊢
 refine enter Try.func171 rfl Try.ntmps171 rfl hc (zen ?_)
 unfold inC
 apply W.sr
 apply OL.box; rfl; rfl; exact CellsL.agg; (intro bk hbk; have hbk0 := hbk.mem s0 hs0)
 apply OL.alloc; rfl; rfl; exact CellsL.agg; (intro bk hbk; have hbk0 := hbk.mem s0 hs0)
 refine zgs ?_
 rename_i b4 hb4 hb40
 revert hbk0
 revert bk
 intro b6 hb6 hb60
 refine W.cnd ?_ ?_ <;> intro s1 <;> try exact zwx s1
 refine zgs ?_
 refine W.cnd ?_ ?_ <;> intro s2 <;> try exact zwx s2
 refine zgs ?_
 refine W.cnd ?_ ?_ <;> intro s3 <;> try exact zwx s3
 refine zgs ?_
 refine W.cond rfl (fun _ => ?_) (fun h => by simp [hop] at h; omega)
 refine zgs ?_
 exact At.finCT (b := b6) (cs := [.int .i64 0, .int .i64 0, .slice none 0 0, .pointer none]) rfl rfl (by exact mau) rfl rfl rfl (fun w' hw' => ⟨rfl, hw'.thin (.any (fun k hk => by rw [show k = b6 from hk]; exact hb6) (.any (fun k hk => by rw [show k = b4 from hk]; exact hb4) Thin.same))⟩)
theorem eff_bad2 (bm : Nat) (i : Go.Ss.In) (iy : Sc) (hop : i.op = 19) (a0 a1 : PV) (hbad : a0.k ≠ 3 ∨ a1.k ≠ 0) (bt : Nat) (H : List Eng.Item) (S : List World) (s0 : World) (hs0 : s0 ∈ S) (w : World)
  (hc : Cls (blk bt 198 (cat pC [a0, a1]) :: H) S w) :
  Calls Try.prog 171 [.pointer (some ⟨bm, 0, none⟩), .agg (inC i iy).toArray, .slice (some ⟨bt, 0, none⟩) 2 2].toArray w fun e w' =>
   e = .returned (.tuple #[.agg (pC zP).toArray, .int .i64 5]) ∧ Cls (blk bt 198 (cat pC [a0, a1]) :: H) S w' := by
 rw [cat2C] at hc ⊢
 refine enter Try.func171 rfl Try.ntmps171 rfl hc (zen ?_)
 unfold inC
 apply W.sr
 apply OL.box; rfl; rfl; exact CellsL.agg; (intro bk hbk; have hbk0 := hbk.mem s0 hs0)
 apply OL.alloc; rfl; rfl; exact CellsL.agg; (intro bk hbk; have hbk0 := hbk.mem s0 hs0)
 refine zgs ?_
 rename_i b4 hb4 hb40
 revert hbk0
 revert bk
 intro b6 hb6 hb60
 refine W.cnd ?_ ?_ <;> intro s1 <;> try exact zwx s1
 refine zgs ?_
 refine W.cnd ?_ ?_ <;> intro s2 <;> try exact zwx s2
 refine zgs ?_
 refine W.cnd ?_ ?_ <;> intro s3 <;> try exact zwx s3
 refine zgs ?_
 refine W.cond rfl (fun _ => ?_) (fun h => by simp [hop] at h; omega)
 refine zgs ?_
 exact At.finCT (b := b6) (cs := [.int .i64 0, .int .i64 0, .slice none 0 0, .pointer none]) rfl rfl (by exact mau) rfl rfl rfl (fun w' hw' => ⟨rfl, hw'.thin (.any (fun k hk => by rw [show k = b6 from hk]; exact hb6) (.any (fun k hk => by rw [show k = b4 from hk]; exact hb4) Thin.same))⟩)
theorem eff_bad3 (bm : Nat) (i : Go.Ss.In) (iy : Sc) (hop : i.op = 20) (a0 a1 a2 : PV) (hbad : a0.k ≠ 3 ∨ a1.k ≠ 0) (bt : Nat) (H : List Eng.Item) (S : List World) (s0 : World) (hs0 : s0 ∈ S) (w : World)
  (hc : Cls (blk bt 198 (cat pC [a0, a1, a2]) :: H) S w) :
  Calls Try.prog 171 [.pointer (some ⟨bm, 0, none⟩), .agg (inC i iy).toArray, .slice (some ⟨bt, 0, none⟩) 3 3].toArray w fun e w' =>
   e = .returned (.tuple #[.agg (pC zP).toArray, .int .i64 5]) ∧ Cls (blk bt 198 (cat pC [a0, a1, a2]) :: H) S w' := by
 rw [cat3C] at hc ⊢
 refine enter Try.func171 rfl Try.ntmps171 rfl hc (zen ?_)
 unfold inC
 apply W.sr
 apply OL.box; rfl; rfl; exact CellsL.agg; (intro bk hbk; have hbk0 := hbk.mem s0 hs0)
 apply OL.alloc; rfl; rfl; exact CellsL.agg; (intro bk hbk; have hbk0 := hbk.mem s0 hs0)
 refine zgs ?_
 rename_i b4 hb4 hb40
 revert hbk0
 revert bk
 intro b6 hb6 hb60
 refine W.cnd ?_ ?_ <;> intro s1 <;> try exact zwx s1
 refine zgs ?_
 refine W.cnd ?_ ?_ <;> intro s2 <;> try exact zwx s2
 refine zgs ?_
 refine W.cnd ?_ ?_ <;> intro s3 <;> try exact zwx s3
 refine zgs ?_
 refine W.cond rfl (fun _ => ?_) (fun h => by simp [hop] at h; omega)
 refine zgs ?_
 exact At.finCT (b := b6) (cs := [.int .i64 0, .int .i64 0, .slice none 0 0, .pointer none]) rfl rfl (by exact mau) rfl rfl rfl (fun w' hw' => ⟨rfl, hw'.thin (.any (fun k hk => by rw [show k = b6 from hk]; exact hb6) (.any (fun k hk => by rw [show k = b4 from hk]; exact hb4) Thin.same))⟩)
theorem eff_len (bm : Nat) (i : Go.Ss.In) (iy : Sc) (hop : i.op = 17) (a0 : PV) (bx cb : Nat) (xs : List PV) (hxl : xs.length ≤ 1024) (hk0 : a0.k = 3) (hbx : a0.b = bx) (bt : Nat) (H : List Eng.Item) (S : List World) (s0 : World) (hs0 : s0 ∈ S) (w : World)
  (hc : Cls (blk bt 198 (cat pC [a0]) :: blk bx 191 [.slice (some ⟨cb, 0, none⟩) xs.length xs.length] :: blk cb 198 (cat pC xs) :: H) S w) :
  Calls Try.prog 171 [.pointer (some ⟨bm, 0, none⟩), .agg (inC i iy).toArray, .slice (some ⟨bt, 0, none⟩) 1 1].toArray w fun e w' =>
   e = .returned (.tuple #[.agg (pC (pw xs.length)).toArray, .int .i64 0]) ∧ Cls (blk bt 198 (cat pC [a0]) :: blk bx 191 [.slice (some ⟨cb, 0, none⟩) xs.length xs.length] :: blk cb 198 (cat pC xs) :: H) S w' := by
 rw [cat1C] at hc ⊢
 refine enter Try.func171 rfl Try.ntmps171 rfl hc (zen ?_)
 unfold inC
 apply W.sr
 apply OL.box; rfl; rfl; exact CellsL.agg; (intro bk hbk; have hbk0 := hbk.mem s0 hs0)
 apply OL.alloc; rfl; rfl; exact CellsL.agg; (intro bk hbk; have hbk0 := hbk.mem s0 hs0)
 refine zgs ?_
 rename_i b4 hb4 hb40
 revert hbk0
 revert bk
 intro b6 hb6 hb60
 refine W.cnd ?_ ?_ <;> intro s1 <;> try exact zwx s1
 refine zgs ?_
 refine W.cnd ?_ ?_ <;> intro s2 <;> try exact zwx s2
 refine zgs ?_
 refine W.cnd ?_ ?_ <;> intro s3 <;> try exact zwx s3
 rw [hk0, if_pos rfl, hbx]
 refine zgs ?_
 refine W.cond rfl (fun h => by simp [hop] at h) (fun _ => ?_)
 refine zgs ?_
 refine W.cnd ?_ ?_ <;> intro s4 <;> try exact zwx s4
 refine zgs ?_
 (((first | apply OL.op | apply QL.op); exact Guard.au; rfl; rfl); (exact Pev.call rfl (by exact Args.au) (fun _ w2 hw2 => (wordOf_calls _ w2).mono (fun e w3 h => ⟨h.1, hw2.ext h.2⟩))))
 refine zgs ?_
 exact At.finCT (b := b6) (cs := [.int .i64 0, .int .i64 (xs.length), .slice none 0 0, .pointer none]) rfl rfl (by exact mau) rfl rfl rfl (fun w' hw' => ⟨rfl, hw'.thin (.any (fun k hk => by rw [show k = b6 from hk]; exact hb6) (.any (fun k hk => by rw [show k = b4 from hk]; exact hb4) Thin.same))⟩)
theorem eff_get (bm : Nat) (i : Go.Ss.In) (iy : Sc) (hop : i.op = 19) (a0 a1 : PV) (hk1 : a1.k = 0) (bx cb : Nat) (xs : List PV) (hxl : xs.length ≤ 1024) (hk0 : a0.k = 3) (hbx : a0.b = bx) (bt : Nat) (H : List Eng.Item) (S : List World) (s0 : World) (hs0 : s0 ∈ S) (w : World)
  (hc : Cls (blk bt 198 (cat pC [a0, a1]) :: blk bx 191 [.slice (some ⟨cb, 0, none⟩) xs.length xs.length] :: blk cb 198 (cat pC xs) :: H) S w) :
  Calls Try.prog 171 [.pointer (some ⟨bm, 0, none⟩), .agg (inC i iy).toArray, .slice (some ⟨bt, 0, none⟩) 2 2].toArray w fun e w' =>
   ((a1.n < 0 ∨ (xs.length : Int) ≤ a1.n) ∧ e = .returned (.tuple #[.agg (pC zP).toArray, .int .i64 2]) ∧ Cls (blk bt 198 (cat pC [a0, a1]) :: blk bx 191 [.slice (some ⟨cb, 0, none⟩) xs.length xs.length] :: blk cb 198 (cat pC xs) :: H) S w') ∨ (¬ (a1.n < 0 ∨ (xs.length : Int) ≤ a1.n) ∧ e = .returned (.tuple #[.agg (pC (xs.getD a1.n.toNat zP)).toArray, .int .i64 0]) ∧ Cls (blk bt 198 (cat pC [a0, a1]) :: blk bx 191 [.slice (some ⟨cb, 0, none⟩) xs.length xs.length] :: blk cb 198 (cat pC xs) :: H) S w') := by
 rw [cat2C] at hc ⊢
 refine enter Try.func171 rfl Try.ntmps171 rfl hc (zen ?_)
 unfold inC
 apply W.sr
 apply OL.box; rfl; rfl; exact CellsL.agg; (intro bk hbk; have hbk0 := hbk.mem s0 hs0)
 apply OL.alloc; rfl; rfl; exact CellsL.agg; (intro bk hbk; have hbk0 := hbk.mem s0 hs0)
 refine zgs ?_
 rename_i b4 hb4 hb40
 revert hbk0
 revert bk
 intro b6 hb6 hb60
 refine W.cnd ?_ ?_ <;> intro s1 <;> try exact zwx s1
 refine zgs ?_
 refine W.cnd ?_ ?_ <;> intro s2 <;> try exact zwx s2
 refine zgs ?_
 refine W.cnd ?_ ?_ <;> intro s3 <;> try exact zwx s3
 rw [hk0, if_pos rfl, hbx]
 refine zgs ?_
 refine W.cond rfl (fun h => by simp [hk1] at h) (fun _ => ?_)
 refine zgs ?_
 refine W.cnd ?_ ?_ <;> intro s4 <;> try exact zwx s4
 refine zgs ?_
 by_cases h2 : a1.n < 0 ∨ (xs.length : Int) ≤ a1.n
 ·refine W.cond rfl (fun _ => ?_) (fun h => by simp at h; omega)
  refine zgs ?_
  exact At.finCT (b := b6) (cs := [.int .i64 0, .int .i64 0, .slice none 0 0, .pointer none]) rfl rfl (by exact mau) rfl rfl rfl (fun w' hw' => .inl ⟨h2, rfl, hw'.thin (.any (fun k hk => by rw [show k = b6 from hk]; exact hb6) (.any (fun k hk => by rw [show k = b4 from hk]; exact hb4) Thin.same))⟩)
 refine W.cond rfl (fun h => by simp at h; omega) (fun _ => ?_)
 obtain ⟨n, hn⟩ : ∃ n : Nat, a1.n = (n : Int) := ⟨a1.n.toNat, by omega⟩
 refine zgs ?_
 refine W.cnd ?_ ?_ <;> intro s5 <;> try exact zwx s5
 rw [hn]
 refine zgs ?_
 obtain ⟨c, hcc⟩ : ∃ c, xs[n]? = some c := ⟨_, List.getElem?_eq_getElem (by omega)⟩
 (((first | apply OL.op | apply QL.op); exact Guard.au; rfl; rfl); (exact Pev.load_blkE (vs := pC c) rfl g_c (by exact mau) rfl rfl (fun _ jj x hj => by rw [show 0 + ((n : Nat) : Int).toNat * 4 = n * 4 by omega]; exact cat_get (f := pC) (sz := 4) (fun _ => rfl) hcc jj x hj)))
 refine zgs ?_
 have e1 : xs.getD (n : Int).toNat zP = c := by rw [Int.toNat_natCast]; exact getD_at hcc
 exact At.finCT (b := b6) (cs := [.int .i64 c.k, .int .i64 c.n, .slice c.q c.l.length c.cap, .pointer (if c.k = 3 then some ⟨c.b, 0, none⟩ else none)]) rfl rfl (by exact mau) rfl rfl rfl (fun w' hw' => .inr ⟨by omega, by rw [e1]; rfl, hw'.thin (.any (fun k hk => by rw [show k = b6 from hk]; exact hb6) (.any (fun k hk => by rw [show k = b4 from hk]; exact hb4) Thin.same))⟩)
theorem eff_set (bm : Nat) (i : Go.Ss.In) (iy : Sc) (hop : i.op = 20) (a0 a1 a2 : PV) (hk1 : a1.k = 0) (bx cb : Nat) (xs : List PV) (hxl : xs.length ≤ 1024) (hk0 : a0.k = 3) (hbx : a0.b = bx) (bt : Nat) (H : List Eng.Item) (S : List World) (s0 : World) (hs0 : s0 ∈ S) (w : World)
  (hc : Cls (blk bt 198 (cat pC [a0, a1, a2]) :: blk bx 191 [.slice (some ⟨cb, 0, none⟩) xs.length xs.length] :: blk cb 198 (cat pC xs) :: H) S w) :
  Calls Try.prog 171 [.pointer (some ⟨bm, 0, none⟩), .agg (inC i iy).toArray, .slice (some ⟨bt, 0, none⟩) 3 3].toArray w fun e w' =>
   ((a1.n < 0 ∨ (xs.length : Int) ≤ a1.n) ∧ e = .returned (.tuple #[.agg (pC zP).toArray, .int .i64 2]) ∧ Cls (blk bt 198 (cat pC [a0, a1, a2]) :: blk bx 191 [.slice (some ⟨cb, 0, none⟩) xs.length xs.length] :: blk cb 198 (cat pC xs) :: H) S w') ∨ (¬ (a1.n < 0 ∨ (xs.length : Int) ≤ a1.n) ∧ e = .returned (.tuple #[.agg (pC zP).toArray, .int .i64 0]) ∧ Cls (blk bt 198 (cat pC [a0, a1, a2]) :: blk bx 191 [.slice (some ⟨cb, 0, none⟩) xs.length xs.length] :: blk cb 198 (cat pC (xs.set a1.n.toNat a2)) :: H) S w') := by
 rw [cat3C] at hc ⊢
 refine enter Try.func171 rfl Try.ntmps171 rfl hc (zen ?_)
 unfold inC
 apply W.sr
 apply OL.box; rfl; rfl; exact CellsL.agg; (intro bk hbk; have hbk0 := hbk.mem s0 hs0)
 apply OL.alloc; rfl; rfl; exact CellsL.agg; (intro bk hbk; have hbk0 := hbk.mem s0 hs0)
 refine zgs ?_
 rename_i b4 hb4 hb40
 revert hbk0
 revert bk
 intro b6 hb6 hb60
 refine W.cnd ?_ ?_ <;> intro s1 <;> try exact zwx s1
 refine zgs ?_
 refine W.cnd ?_ ?_ <;> intro s2 <;> try exact zwx s2
 refine zgs ?_
 refine W.cnd ?_ ?_ <;> intro s3 <;> try exact zwx s3
 rw [hk0, if_pos rfl, hbx]
 refine zgs ?_
 refine W.cond rfl (fun h => by simp [hk1] at h) (fun _ => ?_)
 refine zgs ?_
 refine W.cnd ?_ ?_ <;> intro s4 <;> try exact zwx s4
 refine zgs ?_
 by_cases h2 : a1.n < 0 ∨ (xs.length : Int) ≤ a1.n
 ·refine W.cond rfl (fun _ => ?_) (fun h => by simp at h; omega)
  refine zgs ?_
  exact At.finCT (b := b6) (cs := [.int .i64 0, .int .i64 0, .slice none 0 0, .pointer none]) rfl rfl (by exact mau) rfl rfl rfl (fun w' hw' => .inl ⟨h2, rfl, hw'.thin (.any (fun k hk => by rw [show k = b6 from hk]; exact hb6) (.any (fun k hk => by rw [show k = b4 from hk]; exact hb4) Thin.same))⟩)
 refine W.cond rfl (fun h => by simp at h; omega) (fun _ => ?_)
 obtain ⟨n, hn⟩ : ∃ n : Nat, a1.n = (n : Int) := ⟨a1.n.toNat, by omega⟩
 refine zgs ?_
 refine W.cnd ?_ ?_ <;> intro s5 <;> try exact zwx s5
 rw [hn]
 refine zgs ?_
 refine OL.storeL (vs := pC a2) (cs := cat pC xs) rfl rfl rfl rfl rfl rfl ⟨?_, rfl⟩ (by exact Swap.au) ?_
 ·rw [cat_length (f := pC) (sz := 4) (fun _ => rfl)]
  simp [pC]
  omega
 rw [show 0 + (n : Int).toNat * 4 = n * 4 by omega, cat_set (f := pC) (sz := 4) (fun _ => rfl) (by omega) (by omega)]
 apply OL.nsr
 (((first | apply OL.op | apply QL.op); exact Guard.au; rfl; rfl); (exact Pev.call rfl (by exact Args.au) (fun _ w2 hw2 => (wordOf_calls _ w2).mono (fun e w3 h => ⟨h.1, hw2.ext h.2⟩))))
 refine zgs ?_
 rw [Int.toNat_natCast]
 exact At.finCT (b := b6) (cs := [.int .i64 0, .int .i64 0, .slice none 0 0, .pointer none]) rfl rfl (by exact mau) rfl rfl rfl (fun w' hw' => .inr ⟨by omega, rfl, hw'.thin (.any (fun k hk => by rw [show k = b6 from hk]; exact hb6) (.any (fun k hk => by rw [show k = b4 from hk]; exact hb4) Thin.same))⟩)
end Go.Proofs.Ytehelljmaiophaa.ss

/- The walks of ssa's machine: a new array. Conditions: none. -/
namespace Go.Proofs.Ytehelljmaiophaa.ss
set_option maxRecDepth 100000
open Go.Eng Go.RowKit Go.Ss
def AlP (S : List World) (B : Nat) (a0 a1 : PV) (m : MS) (v : PV) (t : Int) (m' : MS) (it : Eng.Item) : Prop :=
 (a0.k ≠ 0 ∧ v = zP ∧ t = 5 ∧ m' = m ∧ it = nothing) ∨
 (a0.k = 0 ∧ (a0.n < 0 ∨ 1024 < a0.n) ∧ v = zP ∧ t = 6 ∧ m' = m ∧ it = nothing) ∨
 (a0.k = 0 ∧ (0 ≤ a0.n ∧ a0.n ≤ 1024) ∧ m.left < a0.n ∧ v = zP ∧ t = 0 ∧ m' = { m with sh := true, ov := true } ∧ it = nothing) ∨
 (a0.k = 0 ∧ (0 ≤ a0.n ∧ a0.n ≤ 1024) ∧ a0.n ≤ m.left ∧ ∃ bx cb : Nat, v = .mk 3 0 none 0 bx [] ∧ t = 0 ∧ m' = { m with left := m.left - a0.n } ∧
  it = bag B [blk bx 191 [.slice (some ⟨cb, 0, none⟩) a0.n.toNat a0.n.toNat], blk cb 198 (cat pC (List.replicate a0.n.toNat a1))])
theorem AlP.ex (S : List World) (B : Nat) (a0 a1 : PV) (m : MS) : ∃ y : PV × Int × MS × Eng.Item, AlP S B a0 a1 m y.1 y.2.1 y.2.2.1 y.2.2.2 := by
 by_cases h0 : a0.k = 0
 ·by_cases h1 : a0.n < 0 ∨ 1024 < a0.n
  ·exact ⟨(_, _, _, _), .inr (.inl ⟨h0, h1, rfl, rfl, rfl, rfl⟩)⟩
  ·by_cases h2 : m.left < a0.n
   ·exact ⟨(_, _, _, _), .inr (.inr (.inl ⟨h0, by omega, h2, rfl, rfl, rfl, rfl⟩))⟩
   ·exact ⟨(_, _, _, _), .inr (.inr (.inr ⟨h0, by omega, by omega, 0, 0, rfl, rfl, rfl, rfl⟩))⟩
 ·exact ⟨(_, _, _, _), .inl ⟨h0, rfl, rfl, rfl, rfl⟩⟩
theorem alloc2_calls (bm : Nat) (m : MS) (a0 a1 : PV) (B : Nat) (H : List Eng.Item) (S : List World) (hbs : ∃ s ∈ S, B ≤ s.heap.size) (s0 : World) (hs0 : s0 ∈ S) (hsh : m.sh = false) (hl0 : 0 ≤ m.left) (hl6 : m.left ≤ 1000000) (w : World) (hc : Cls (blk bm 160 m.c :: H) S w) :
  Calls Try.prog 185 [.pointer (some ⟨bm, 0, none⟩), .agg (pC a0).toArray, .agg (pC a1).toArray].toArray w fun e w' =>
   ∃ v t m' it, e = .returned (.tuple #[.agg (pC v).toArray, .int .i64 t]) ∧ AlP S B a0 a1 m v t m' it ∧ Cls (it :: blk bm 160 m'.c :: H) S w' := by
 refine (alloc_calls bm m a0 a1 H S s0 hs0 hsh hl0 hl6 w hc).mono fun e w' h => ?_
 rcases h with ⟨h1, h2, h3⟩ | ⟨h1, h2, h3, h4⟩ | ⟨h1, h2, h3, h4, h5⟩ | ⟨h1, h2, h3, bx, cb, ⟨h4, h5⟩, h6, h7⟩
 ·exact ⟨_, _, _, _, h2, .inl ⟨h1, rfl, rfl, rfl, rfl⟩, h3.nothing_in⟩
 ·exact ⟨_, _, _, _, h3, .inr (.inl ⟨h1, h2, rfl, rfl, rfl, rfl⟩), h4.nothing_in⟩
 ·exact ⟨_, _, _, _, h4, .inr (.inr (.inl ⟨h1, h2, h3, rfl, rfl, rfl, rfl⟩)), h5.nothing_in⟩
 ·obtain ⟨s, hs, hB⟩ := hbs
  have hx := h4.mem s hs
  have hy := h5.mem s hs
  refine ⟨_, _, _, _, h6, .inr (.inr (.inr ⟨h1, h2, h3, bx, cb, rfl, rfl, rfl, rfl⟩)), ?_⟩
  have g1 := h7.bag_nil B
  have g2 := g1.perm (List.Perm.append_right _ (List.perm_append_comm (l₁ := [_]) (l₂ := [_, _])))
  have g3 : Cls (_ :: _ :: bag B [] :: _) S w' := g2
  have g4 := g3.perm (List.Perm.cons _ (List.Perm.refl _))
  have g5 := (g4.perm (List.Perm.swap _ _ _))
  have g6 : Cls (blk cb 198 (cat pC (List.replicate a0.n.toNat a1)) :: bag B [] :: blk bx 191 [.slice (some ⟨cb, 0, none⟩) a0.n.toNat a0.n.toNat] :: blk bm 160 { m with left := m.left - a0.n }.c :: H) S w' := g5.perm (List.Perm.cons _ (List.Perm.swap _ _ _))
  have g7 := g6.bag_in (fun k hk => by rw [show k = cb from hk]; omega)
  exact (g7.perm (List.Perm.swap _ _ _)).bag_in (fun k hk => by rw [show k = bx from hk]; omega)
structure XAl (S : List World) (B : Nat) (a0 a1 : PV) (m0 : MS) where
 v : PV
 t : Int
 m : MS
 it : Eng.Item
 ok : AlP S B a0 a1 m0 v t m it
 old : Nat → Value
theorem eff_new (bm : Nat) (i : Go.Ss.In) (iy : Sc) (hop : i.op = 16) (a0 a1 : PV) (m : MS) (B : Nat) (hsh : m.sh = false) (hl0 : 0 ≤ m.left) (hl6 : m.left ≤ 1000000) (bt : Nat) (H : List Eng.Item) (S : List World) (s0 : World) (hs0 : s0 ∈ S) (hbs : ∃ s ∈ S, B ≤ s.heap.size) (w : World)
  (hc : Cls (blk bt 198 (cat pC [a0, a1]) :: blk bm 160 m.c :: H) S w) :
  Calls Try.prog 171 [.pointer (some ⟨bm, 0, none⟩), .agg (inC i iy).toArray, .slice (some ⟨bt, 0, none⟩) 2 2].toArray w fun e w' =>
   ∃ v t m' it, e = .returned (.tuple #[.agg (pC v).toArray, .int .i64 t]) ∧ AlP S B a0 a1 m v t m' it ∧ Cls (it :: blk bt 198 (cat pC [a0, a1]) :: blk bm 160 m'.c :: H) S w' := by
 rw [cat2C] at hc ⊢
 refine enter Try.func171 rfl Try.ntmps171 rfl hc (zen ?_)
 unfold inC
 apply W.sr
 apply OL.box; rfl; rfl; exact CellsL.agg; (intro bk hbk; have hbk0 := hbk.mem s0 hs0)
 apply OL.alloc; rfl; rfl; exact CellsL.agg; (intro bk hbk; have hbk0 := hbk.mem s0 hs0)
 refine zgs ?_
 rename_i b4 hb4 hb40
 revert hbk0
 revert bk
 intro b6 hb6 hb60
 refine W.cnd ?_ ?_ <;> intro s1 <;> try exact zwx s1
 refine zgs ?_
 refine W.cnd ?_ ?_ <;> intro s2 <;> try exact zwx s2
 apply W.seq
 obtain ⟨y0, hy0⟩ := AlP.ex S B a0 a1 m
 refine W.regany (X := XAl S B a0 a1 m) (fun x e => [(7, true, bif e 11 then .int .i64 x.t else .int .i64 0), (55, true, bif e 9 then .int .i64 x.t else x.old 55), (54, true, bif e 8 then .agg (pC x.v).toArray else x.old 54), (53, true, bif e 7 then .tuple #[.agg (pC x.v).toArray, .int .i64 x.t] else x.old 53), (52, true, bif e 6 then .agg (pC a1).toArray else x.old 52), (51, true, bif e 5 then .pointer (some ⟨bt, 0 + Int.toNat 1 * 4, none⟩) else x.old 51), (50, true, bif e 4 then .slice (some ⟨bt, 0, none⟩) 2 2 else x.old 50), (49, true, bif e 3 then .agg (pC a0).toArray else x.old 49), (48, true, bif e 2 then .pointer (some ⟨bt, 0 + Int.toNat 0 * 4, none⟩) else x.old 48), (47, true, bif e 1 then .slice (some ⟨bt, 0, none⟩) 2 2 else x.old 47), (46, true, bif e 0 then .pointer (some ⟨bm, 0, none⟩) else x.old 46), (0, true, .pointer (some ⟨bm, 0, none⟩)), (2, true, .slice (some ⟨bt, 0, none⟩) 2 2), (4, true, .pointer (some ⟨b4, 0, none⟩)), (6, true, .pointer (some ⟨b6, 0, none⟩))])
  (fun x e => (bif e 7 then x.it else nothing) :: (bif e 10 then blk b6 198 [.int .i64 x.v.k, .int .i64 x.v.n, .slice x.v.q x.v.l.length x.v.cap, .pointer (if x.v.k = 3 then some ⟨x.v.b, 0, none⟩ else none)] else blk b6 198 [.int .i64 0, .int .i64 0, .slice none 0 0, .pointer none]) :: (blk b4 85 [.int .i64 i.to_, .int .i64 i.op, .int .i64 i.n, .slice iy.1 i.args.length iy.2]) :: (blk bt 198 [.int .i64 a0.k, .int .i64 a0.n, .slice a0.q a0.l.length a0.cap, .pointer (if a0.k = 3 then some ⟨a0.b, 0, none⟩ else none), .int .i64 a1.k, .int .i64 a1.n, .slice a1.q a1.l.length a1.cap, .pointer (if a1.k = 3 then some ⟨a1.b, 0, none⟩ else none)]) :: (bif e 7 then blk bm 160 x.m.c else blk bm 160 m.c) :: H)
  (fun old => ⟨y0.1, y0.2.1, y0.2.2.1, y0.2.2.2, hy0, old⟩) (by kernel_rfl) (by kernel_rfl) (fun w hw => hw.drew) (fun old => by repeat (first | exact SubO.nil | apply SubO.cons rfl | refine SubO.old rfl ?_)) (fun old w' hw' => hw'.nothing_in) ?_ ?_
 ·intro x e i o ho hei hd hcl
  have hi : i < 12 := (List.getElem?_eq_some_iff.1 ho).1
  obtain rfl | rfl | rfl | rfl | rfl | rfl | rfl | rfl | rfl | rfl | rfl | rfl : i = 0 ∨ i = 1 ∨ i = 2 ∨ i = 3 ∨ i = 4 ∨ i = 5 ∨ i = 6 ∨ i = 7 ∨ i = 8 ∨ i = 9 ∨ i = 10 ∨ i = 11 := by omega
  ·cases ho
   have v0 : Eng.upd e 0 0 = true := upd_eq
   simp only [hei, cond_true, cond_false]
   refine zgs ?_
   exact At.beside x (by repeat (first | exact Sub.nil | apply Sub.cons rfl | refine Sub.cons_eq rfl (by simp only [v0, cond_true, cond_false]) ?_)) (fun w' hw' => by first | exact hw' | (simp only [v0, cond_true, cond_false]; exact hw'))
  ·cases ho
   have v1 : Eng.upd e 1 1 = true := upd_eq
   simp only [hei, cond_true, cond_false]
   refine zgs ?_
   exact At.beside x (by repeat (first | exact Sub.nil | apply Sub.cons rfl | refine Sub.cons_eq rfl (by simp only [v1, cond_true, cond_false]) ?_)) (fun w' hw' => by first | exact hw' | (simp only [v1, cond_true, cond_false]; exact hw'))
  ·cases ho
   have h1 : e 1 = true := hd ⟨1, .data⟩ (by simp) rfl
   have v2 : Eng.upd e 2 2 = true := upd_eq
   have v1 : Eng.upd e 2 1 = true := upd_mono h1
   simp only [hei, h1, cond_true, cond_false]
   refine zgs ?_
   exact At.beside x (by repeat (first | exact Sub.nil | apply Sub.cons rfl | refine Sub.cons_eq rfl (by simp only [v2, v1, cond_true, cond_false]) ?_)) (fun w' hw' => by first | exact hw' | (simp only [v2, v1, cond_true, cond_false]; exact hw'))
  ·cases ho
   have h2 : e 2 = true := hd ⟨2, .data⟩ (by simp) rfl
   have v3 : Eng.upd e 3 3 = true := upd_eq
   have v2 : Eng.upd e 3 2 = true := upd_mono h2
   simp only [hei, h2, cond_true, cond_false]
   refine zgs ?_
   exact At.beside x (by repeat (first | exact Sub.nil | apply Sub.cons rfl | refine Sub.cons_eq rfl (by simp only [v3, v2, cond_true, cond_false]) ?_)) (fun w' hw' => by first | exact hw' | (simp only [v3, v2, cond_true, cond_false]; exact hw'))
  ·cases ho
   have v4 : Eng.upd e 4 4 = true := upd_eq
   simp only [hei, cond_true, cond_false]
   refine zgs ?_
   exact At.beside x (by repeat (first | exact Sub.nil | apply Sub.cons rfl | refine Sub.cons_eq rfl (by simp only [v4, cond_true, cond_false]) ?_)) (fun w' hw' => by first | exact hw' | (simp only [v4, cond_true, cond_false]; exact hw'))
  ·cases ho
   have h4 : e 4 = true := hd ⟨4, .data⟩ (by simp) rfl
   have v5 : Eng.upd e 5 5 = true := upd_eq
   have v4 : Eng.upd e 5 4 = true := upd_mono h4
   simp only [hei, h4, cond_true, cond_false]
   refine zgs ?_
   exact At.beside x (by repeat (first | exact Sub.nil | apply Sub.cons rfl | refine Sub.cons_eq rfl (by simp only [v5, v4, cond_true, cond_false]) ?_)) (fun w' hw' => by first | exact hw' | (simp only [v5, v4, cond_true, cond_false]; exact hw'))
  ·cases ho
   have h5 : e 5 = true := hd ⟨5, .data⟩ (by simp) rfl
   have v6 : Eng.upd e 6 6 = true := upd_eq
   have v5 : Eng.upd e 6 5 = true := upd_mono h5
   simp only [hei, h5, cond_true, cond_false]
   refine zgs ?_
   exact At.beside x (by repeat (first | exact Sub.nil | apply Sub.cons rfl | refine Sub.cons_eq rfl (by simp only [v6, v5, cond_true, cond_false]) ?_)) (fun w' hw' => by first | exact hw' | (simp only [v6, v5, cond_true, cond_false]; exact hw'))
  ·cases ho
   have h0 : e 0 = true := hd ⟨0, .data⟩ (by simp) rfl
   have h3 : e 3 = true := hd ⟨3, .data⟩ (by simp) rfl
   have h6 : e 6 = true := hd ⟨6, .data⟩ (by simp) rfl
   have h8 : e 8 = false := hcl.not (i := 7) (j := 8) rfl hei (by kernel_rfl)
   have h9 : e 9 = false := hcl.not (i := 7) (j := 9) rfl hei (by kernel_rfl)
   have h10 : e 10 = false := hcl.not (i := 7) (j := 10) rfl hei (by kernel_rfl)
   have h11 : e 11 = false := hcl.not (i := 7) (j := 11) rfl hei (by kernel_rfl)
   have v7 : Eng.upd e 7 7 = true := upd_eq
   have v0 : Eng.upd e 7 0 = true := upd_mono h0
   have v3 : Eng.upd e 7 3 = true := upd_mono h3
   have v6 : Eng.upd e 7 6 = true := upd_mono h6
   have v8 : Eng.upd e 7 8 = false := h8
   have v9 : Eng.upd e 7 9 = false := h9
   have v10 : Eng.upd e 7 10 = false := h10
   have v11 : Eng.upd e 7 11 = false := h11
   simp only [hei, h0, h3, h6, h8, h9, h10, h11, cond_true, cond_false]
   refine OL.callE (α := PV × Int × MS × Eng.Item) (fun y => .tuple #[.agg (pC y.1).toArray, .int .i64 y.2.1]) (fun y => AlP S B a0 a1 m y.1 y.2.1 y.2.2.1 y.2.2.2) (fun y => Cls (y.2.2.2 :: blk b6 198 [.int .i64 0, .int .i64 0, .slice none 0 0, .pointer none] :: blk b4 85 [.int .i64 i.to_, .int .i64 i.op, .int .i64 i.n, .slice iy.1 i.args.length iy.2] :: blk bt 198 [.int .i64 a0.k, .int .i64 a0.n, .slice a0.q a0.l.length a0.cap, .pointer (if a0.k = 3 then some ⟨a0.b, 0, none⟩ else none), .int .i64 a1.k, .int .i64 a1.n, .slice a1.q a1.l.length a1.cap, .pointer (if a1.k = 3 then some ⟨a1.b, 0, none⟩ else none)] :: blk bm 160 y.2.2.1.c :: H) S) rfl rfl (by exact Args.au) (fun w2 hw2 => (alloc2_calls bm m a0 a1 B _ S hbs s0 hs0 hsh hl0 hl6 w2 hw2.nothing_out.out3).mono fun e w3 ⟨v, t, m', it, h1, h2, h3⟩ => ⟨(v, t, m', it), h1, h2, h3.perm (.cons _ (List.Perm.append_right H (List.perm_append_comm (l₁ := [_]) (l₂ := [_, _, _]))))⟩) ?_
   intro y hy
   apply OL.nil
   exact At.beside { x with v := y.1, t := y.2.1, m := y.2.2.1, it := y.2.2.2, ok := hy } (by repeat (first | exact Sub.nil | apply Sub.cons rfl | refine Sub.cons_eq rfl (by simp only [v7, v0, v3, v6, v8, v9, v10, v11, cond_true, cond_false]) ?_)) (fun w' hw' => by first | exact hw' | (simp only [v7, v0, v3, v6, v8, v9, v10, v11, cond_true, cond_false]; exact hw'))
  ·cases ho
   have h7 : e 7 = true := hd ⟨7, .data⟩ (by simp) rfl
   have v8 : Eng.upd e 8 8 = true := upd_eq
   have v7 : Eng.upd e 8 7 = true := upd_mono h7
   simp only [hei, h7, cond_true, cond_false]
   refine zgs ?_
   exact At.beside x (by repeat (first | exact Sub.nil | apply Sub.cons rfl | refine Sub.cons_eq rfl (by simp only [v8, v7, cond_true, cond_false]) ?_)) (fun w' hw' => by first | exact hw' | (simp only [v8, v7, cond_true, cond_false]; exact hw'))
  ·cases ho
   have h7 : e 7 = true := hd ⟨7, .data⟩ (by simp) rfl
   have v9 : Eng.upd e 9 9 = true := upd_eq
   have v7 : Eng.upd e 9 7 = true := upd_mono h7
   simp only [hei, h7, cond_true, cond_false]
   refine zgs ?_
   exact At.beside x (by repeat (first | exact Sub.nil | apply Sub.cons rfl | refine Sub.cons_eq rfl (by simp only [v9, v7, cond_true, cond_false]) ?_)) (fun w' hw' => by first | exact hw' | (simp only [v9, v7, cond_true, cond_false]; exact hw'))
  ·cases ho
   have h8 : e 8 = true := hd ⟨8, .data⟩ (by simp) rfl
   have v10 : Eng.upd e 10 10 = true := upd_eq
   have v8 : Eng.upd e 10 8 = true := upd_mono h8
   simp only [hei, h8, cond_true, cond_false]
   refine zgs ?_
   exact At.beside x (by repeat (first | exact Sub.nil | apply Sub.cons rfl | refine Sub.cons_eq rfl (by simp only [v10, v8, cond_true, cond_false]) ?_)) (fun w' hw' => by first | exact hw' | (simp only [v10, v8, cond_true, cond_false]; exact hw'))
  ·cases ho
   have h9 : e 9 = true := hd ⟨9, .data⟩ (by simp) rfl
   have h10 : e 10 = true := hd ⟨10, .chain⟩ (by simp) rfl
   have v11 : Eng.upd e 11 11 = true := upd_eq
   have v9 : Eng.upd e 11 9 = true := upd_mono h9
   have v10 : Eng.upd e 11 10 = true := upd_mono h10
   simp only [hei, h9, h10, cond_true, cond_false]
   refine zgs ?_
   exact At.beside x (by repeat (first | exact Sub.nil | apply Sub.cons rfl | refine Sub.cons_eq rfl (by simp only [v11, v9, v10, cond_true, cond_false]) ?_)) (fun w' hw' => by first | exact hw' | (simp only [v11, v9, v10, cond_true, cond_false]; exact hw'))
 ·intro x e hall
  obtain ⟨v, t, m', it, hok, old⟩ := x
  simp only [hall 0 (by decide), hall 1 (by decide), hall 2 (by decide), hall 3 (by decide), hall 4 (by decide), hall 5 (by decide), hall 6 (by decide), hall 7 (by decide), hall 8 (by decide), hall 9 (by decide), hall 10 (by decide), hall 11 (by decide), cond_true, cond_false]
  refine zgs ?_
  exact At.finCT (b := b6) (cs := [.int .i64 v.k, .int .i64 v.n, .slice v.q v.l.length v.cap, .pointer (if v.k = 3 then some ⟨v.b, 0, none⟩ else none)]) rfl rfl (by exact mau) rfl rfl rfl (fun w' hw' => ⟨v, t, m', it, rfl, hok, hw'.thin (.keep (.any (fun k hk => by rw [show k = b6 from hk]; exact hb6) (.any (fun k hk => by rw [show k = b4 from hk]; exact hb4) Thin.same)))⟩)
end Go.Proofs.Ytehelljmaiophaa.ss

/- What an instruction of ssa's machine that is no call does: the state, its memory, and what holds of both. Conditions: none. -/
namespace Go.Ss
open Go.Eng Go.RowKit
structure AR where
 bx : Nat
 cb : Nat
 xs : List PV
structure XS where
 m : MS
 out : List Int
 Oo : Nat → Prop
 L : List (PV × Unit)
 Op : Nat → Prop
 A : List AR
def XS.bs (x : XS) : List Nat := x.A.map AR.bx
structure XOk (x : XS) (sA : List (List SV)) : Prop where
 no : x.m.no = x.out.length
 ol : x.out.length ≤ 1000
 al : x.A.length = sA.length
 ar : ∀ (j : Nat) a, x.A[j]? = some a → ∃ l, sA[j]? = some l ∧ Ers (bxN x.bs) a.xs l
 ai : ∀ a ∈ x.A, ∀ p ∈ a.xs, InP x.L p
 a1 : ∀ a ∈ x.A, a.xs.length ≤ 1024
 sh : x.m.sh = false
 l0 : 0 ≤ x.m.left
 l6 : x.m.left ≤ 1000000
structure MSame (m m' : MS) : Prop where
 qF : m'.qF = m.qF
 nF : m'.nF = m.nF
 cF : m'.cF = m.cF
 main : m'.main = m.main
 qs : m'.qs = m.qs
 ns : m'.ns = m.ns
 cs : m'.cs = m.cs
 ov : m'.ov = m.ov
 en : m'.en = m.en
 va : m'.va = m.va
theorem MSame.refl (m : MS) : MSame m m := ⟨rfl, rfl, rfl, rfl, rfl, rfl, rfl, rfl, rfl, rfl⟩
def VIn (L : List (PV × Unit)) (vs : List PV) (bt : Nat) (v : PV) : Prop := InP L v ∨ (v.q = some ⟨bt, 0, none⟩ ∧ v.l = vs)
def ExR (r : Rs) (x x' : XS) (vs : List PV) (bt : Nat) (v : PV) (t : Int) : Prop := match r with
 | .trap t' => t = t' ∧ x' = x
 | .ok sv sA' out' c => t = 0 ∧ ((x.m.left < (c : Int) ∧ x'.m.sh = true ∧ x'.m.ov = true) ∨
   ((c : Int) ≤ x.m.left ∧ XOk x' sA' ∧ x'.out = out' ∧ MSame x.m x'.m ∧ x'.m.left = x.m.left - c ∧ Er (bxN x'.bs) v sv ∧ (∃ ex, x'.bs = x.bs ++ ex) ∧ (∀ r ∈ x.L, r ∈ x'.L) ∧ VIn x'.L vs bt v))
theorem ExR.val {sv : SV} {sA : List (List SV)} {x : XS} {vs : List PV} {bt : Nat} {v : PV} (hx : XOk x sA) (hv : Er (bxN x.bs) v sv) (hin : VIn x.L vs bt v) : ExR (.ok sv sA x.out 0) x x vs bt v 0 :=
 ⟨rfl, .inr ⟨hx.l0, hx, rfl, MSame.refl _, by simp, hv, ⟨[], by simp⟩, fun _ h => h, hin⟩⟩
theorem erw {bx : List Nat} (n : Int) : Er (bxN bx) (pw n) (wV n) := Er.of (by unfold bxN; rw [if_neg (by decide)]) Ers.nil
theorem Er.num {bx : List Nat} {p : PV} {v : SV} (h : Er (bxN bx) p v) (hk : p.k ≠ 3) : p.n = v.n := by
 have := h.n
 unfold bxN at this
 rwa [if_neg hk] at this
theorem Er.box {bx : List Nat} {p : PV} {v : SV} (h : Er (bxN bx) p v) (hk : p.k = 3) : 0 ≤ v.n ∧ bx[v.n.toNat]? = some p.b := by
 have := h.n
 unfold bxN at this
 rwa [if_pos hk] at this
theorem Ers.one {N : Int → Int → Nat → Int → Prop} {ps : List PV} {vs : List SV} (h : Ers N ps vs) (hl : ps.length = 1) : ∃ p v, ps = [p] ∧ vs = [v] ∧ Er N p v := by
 match ps, hl with
 | [p], _ =>
  match vs, h with
  | [v], h => simp only [Ers] at h; exact ⟨p, v, rfl, rfl, h.1⟩
theorem Ers.two {N : Int → Int → Nat → Int → Prop} {ps : List PV} {vs : List SV} (h : Ers N ps vs) (hl : ps.length = 2) : ∃ p q v u, ps = [p, q] ∧ vs = [v, u] ∧ Er N p v ∧ Er N q u := by
 match ps, hl with
 | [p, q], _ =>
  match vs, h with
  | [v, u], h => simp only [Ers] at h; exact ⟨p, q, v, u, rfl, rfl, h.1, h.2.1⟩
theorem Ers.three {N : Int → Int → Nat → Int → Prop} {ps : List PV} {vs : List SV} (h : Ers N ps vs) (hl : ps.length = 3) : ∃ p q r v u x, ps = [p, q, r] ∧ vs = [v, u, x] ∧ Er N p v ∧ Er N q u ∧ Er N r x := by
 match ps, hl with
 | [p, q, r], _ =>
  match vs, h with
  | [v, u, x], h => simp only [Ers] at h; exact ⟨p, q, r, v, u, x, rfl, rfl, h.1, h.2.1, h.2.2.1⟩
theorem Ers.allK {bx : List Nat} {k : Int} : ∀ {ps : List PV} {vs : List SV}, Ers (bxN bx) ps vs → (ps.all fun p => decide (p.k = k)) = allK k vs
 | [], [], _ => rfl
 | p :: ps, v :: vs, h => by
  simp only [Ers] at h
  have := Ers.allK (k := k) h.2
  simp only [Go.Ss.allK, List.all_cons] at this ⊢
  rw [this, h.1.k]
 | [], _ :: _, h => by simp only [Ers] at h
 | _ :: _, [], h => by simp only [Ers] at h
theorem form_args {i : In} (h : formE i = 0) : (i.op = 0 → i.args.length = 0) ∧ ((1 ≤ i.op ∧ i.op ≤ 7 ∨ i.op = 16 ∨ i.op = 18 ∨ i.op = 19 ∨ i.op = 21 ∨ i.op = 23) → i.args.length = 2) ∧ (i.op = 20 → i.args.length = 3) ∧ ((i.op = 10 ∨ i.op = 11 ∨ i.op = 12 ∨ i.op = 15 ∨ i.op = 17 ∨ i.op = 24) → i.args.length = 1) ∧ i.args.length ≤ 16 ∧ (0 ≤ i.op ∧ i.op ≤ 24) := by
 obtain ⟨m, h1, h2, h3, h4, h5, h6⟩ := form_zero h
 unfold opsN at h1
 split at h1
 ·obtain rfl := Option.some.inj h1
  have := h2 (by omega)
  omega
 split at h1
 ·obtain rfl := Option.some.inj h1
  have := h2 (by omega)
  omega
 split at h1
 ·obtain rfl := Option.some.inj h1
  have := h2 (by omega)
  omega
 split at h1
 ·obtain rfl := Option.some.inj h1
  have := h2 (by omega)
  omega
 split at h1
 ·rename_i h7
  have : i.args.length ≤ 16 := by
   by_cases h8 : i.op = 8 ∨ i.op = 9
   ·exact h4 h8
   ·have := h5 (by omega); omega
  omega
 split at h1
 ·obtain rfl := Option.some.inj h1
  have := h2 (by omega)
  omega
 ·cases h1
theorem num_range {i : In} (h : formE i = 0) : ((i.op = 11 ∨ i.op = 24) → 0 ≤ i.n) ∧ (i.op = 23 → i.n = 1 ∨ i.n = 2 ∨ i.n = 3) := by
 obtain ⟨m, h1, h2, h3, h4, h5, h6⟩ := form_zero h
 refine ⟨fun ho => ?_, fun ho => ?_⟩
 ·unfold numB at h6
  rcases ho with ho | ho
  ·rw [if_neg (by omega), if_neg (by omega), if_pos ho] at h6
   simp only [Bool.and_eq_true, decide_eq_true_eq] at h6
   exact h6.1
  ·rw [if_neg (by omega), if_neg (by omega), if_neg (by omega), if_neg (by omega), if_pos ho] at h6
   simp only [Bool.and_eq_true, decide_eq_true_eq] at h6
   exact h6.1
 ·unfold numB at h6
  rw [if_neg (by omega), if_neg (by omega), if_neg (by omega), if_pos ho] at h6
  simp only [Bool.or_eq_true, decide_eq_true_eq] at h6
  omega
end Go.Ss
namespace Go.Proofs.Ytehelljmaiophaa.ss
open Go.Eng Go.RowKit Go.Ss
def arIt (a : AR) : List Eng.Item := [blk a.bx 191 [.slice (some ⟨a.cb, 0, none⟩) a.xs.length a.xs.length], blk a.cb 198 (cat pC a.xs)]
def arI (A : List AR) : List Eng.Item := A.flatMap arIt
def xI (B bm : Nat) (x : XS) (H : List Eng.Item) : List Eng.Item := blk bm 160 x.m.c :: row B x.Oo x.m.qo x.m.no x.m.co 3 1 (ints x.out) :: pool (pvR pF) B x.Op x.L :: bag B (arI x.A) :: H
theorem arI_split {A : List AR} {j : Nat} {a : AR} (h : A[j]? = some a) : (arI A).Perm (arIt a ++ arI (A.eraseIdx j)) := by
 induction A generalizing j with
 | nil => simp at h
 | cons b A ih =>
  cases j with
  | zero =>
   obtain rfl := Option.some.inj h
   exact List.Perm.refl _
  | succ j =>
   have h1 := ih (j := j) h
   show (arIt b ++ arI A).Perm (arIt a ++ (arIt b ++ arI (A.eraseIdx j)))
   refine (List.Perm.append_left _ h1).trans ?_
   rw [← List.append_assoc, ← List.append_assoc]
   exact List.Perm.append_right _ List.perm_append_comm
theorem set_erase {A : List AR} {j : Nat} (a : AR) : (A.set j a).eraseIdx j = A.eraseIdx j := by
 induction A generalizing j with
 | nil => rfl
 | cons b A ih =>
  cases j with
  | zero => rfl
  | succ j => show b :: _ = b :: _; rw [← ih (j := j)]
theorem ar_out {B : Nat} {A : List AR} {j : Nat} {a : AR} {H : List Eng.Item} {S : List World} {w : World} (hj : A[j]? = some a) (h : Cls (bag B (arI A) :: H) S w) : Cls (blk a.bx 191 [.slice (some ⟨a.cb, 0, none⟩) a.xs.length a.xs.length] :: blk a.cb 198 (cat pC a.xs) :: bag B (arI (A.eraseIdx j)) :: H) S w := by
 have h1 : Cls (bag B (blk a.bx 191 [.slice (some ⟨a.cb, 0, none⟩) a.xs.length a.xs.length] :: blk a.cb 198 (cat pC a.xs) :: arI (A.eraseIdx j)) :: H) S w := h.bag_perm (arI_split hj)
 exact ((h1.bag_out.perm (List.Perm.swap _ _ _)).bag_out.perm ((List.perm_append_comm (l₁ := [_, _]) (l₂ := [_])).append_right _))
theorem ar_in {B : Nat} {A : List AR} {j : Nat} {a : AR} {H : List Eng.Item} {S : List World} {w : World} (hj : j < A.length) (hb : B ≤ a.bx) (hc : B ≤ a.cb) (h : Cls (blk a.bx 191 [.slice (some ⟨a.cb, 0, none⟩) a.xs.length a.xs.length] :: blk a.cb 198 (cat pC a.xs) :: bag B (arI (A.eraseIdx j)) :: H) S w) : Cls (bag B (arI (A.set j a)) :: H) S w := by
 have h1 := (h.perm ((List.perm_append_comm (l₁ := [_]) (l₂ := [_, _])).append_right _) : Cls (blk a.cb 198 (cat pC a.xs) :: bag B (arI (A.eraseIdx j)) :: blk a.bx 191 [.slice (some ⟨a.cb, 0, none⟩) a.xs.length a.xs.length] :: H) S w).bag_in (fun k hk => by rw [show k = a.cb from hk]; exact hc)
 have h2 := (h1.perm (List.Perm.swap _ _ _)).bag_in (fun k hk => by rw [show k = a.bx from hk]; exact hb)
 refine h2.bag_perm ?_
 have e := arI_split (A := A.set j a) (j := j) (a := a) (by rw [List.getElem?_set_self hj])
 rw [set_erase] at e
 exact e.symm
theorem arI_snoc (A : List AR) (a : AR) : arI (A ++ [a]) = arI A ++ arIt a := by simp [arI]
theorem ar_lo {B : Nat} {A : List AR} {H : List Eng.Item} {S : List World} {w : World} (h : Cls (bag B (arI A) :: H) S w) : ∀ a ∈ A, B ≤ a.bx ∧ B ≤ a.cb := by
 intro a ha
 obtain ⟨hb, _⟩ := h.holds _ (.head _)
 have m1 : blk a.bx 191 [.slice (some ⟨a.cb, 0, none⟩) a.xs.length a.xs.length] ∈ arI A := List.mem_flatMap.2 ⟨a, ha, by simp [arIt]⟩
 have m2 : blk a.cb 198 (cat pC a.xs) ∈ arI A := List.mem_flatMap.2 ⟨a, ha, by simp [arIt]⟩
 exact ⟨(hb _ m1).2 _ rfl, (hb _ m2).2 _ rfl⟩
end Go.Proofs.Ytehelljmaiophaa.ss

/- The walk of ssa's exec. Conditions: none. -/
namespace Go.Ss
open Go.Eng Go.RowKit
theorem insP_bin {op n : Int} {l : List SV} {A : List (List SV)} {out : List Int} (h : 1 ≤ op ∧ op ≤ 7) : insP op n l A out = if allK 0 l = false then .trap 5 else if (op = 4 ∨ op = 5) ∧ (l.getD 1 zV).n = 0 then .trap 1 else .ok (wV (binV op (l.getD 0 zV).n (l.getD 1 zV).n)) A out 0 := by
 unfold insP insQ
 rw [if_neg (by omega), if_pos h]
theorem argsAt {bt : Nat} {e : TypeId} {vs : List PV} {x : XS} {B : Nat} {H : List Eng.Item} {S : List World} {w : World} (h : Cls H S w) (h1 : blk bt e (cat pC vs) ∈ H) (h2 : pool (pvR pF) B x.Op x.L ∈ H) (hin : ∀ p ∈ vs, InP x.L p) : Arr (pvR pF) w (low w) (us vs) (some ⟨bt, 0, none⟩) :=
 argArr (h.item h1) (fun p hp => PVO.mono (fun k hk => h.lt _ h2 k hk) ((hin p hp).ok (h.item h2)))
section
variable {x : XS} {sA : List (List SV)} {n t : Int} {p0 p1 v : PV} {v0 v1 : SV} {bt : Nat} {vs : List PV}
theorem Er.lkid {bx : List Nat} {p : PV} {v : SV} (h : Er (bxN bx) p v) (n : Int) : Er (bxN bx) (p.l.getD n.toNat zP) (v.l.getD n.toNat zV) := h.l.getD bxN.z _
theorem InP.getD {L : List (PV × Unit)} {p : PV} (h : InP L p) (i : Nat) : InP L (p.l.getD i zP) := by
 rw [List.getD_eq_getElem?_getD]
 cases hi : p.l[i]? with
 | none => exact .inl rfl
 | some c => exact h.kid (List.mem_of_getElem? hi)
theorem ex_10 (hx : XOk x sA) (he0 : Er (bxN x.bs) p0 v0) (hv : objA 10 n p0 zP = (v, t)) (hin0 : InP x.L p0) : ExR (insP 10 n [v0] sA x.out) x x vs bt v t := by
 unfold objA at hv
 rw [if_neg (by decide)] at hv
 show ExR (if v0.k = 1 then .ok (wV v0.n) sA x.out 0 else .trap 5) x x vs bt v t
 rw [← he0.k]
 by_cases hk : p0.k = 1
 ·rw [if_neg (by omega), if_pos rfl] at hv
  obtain ⟨rfl, rfl⟩ := Prod.mk.inj hv
  rw [if_pos hk, ← he0.num (by omega)]
  exact ExR.val hx (erw _) (.inl (.inl rfl))
 ·rw [if_pos hk] at hv
  obtain ⟨rfl, rfl⟩ := Prod.mk.inj hv
  rw [if_neg hk]
  exact ⟨rfl, rfl⟩
theorem ex_11 (hx : XOk x sA) (he0 : Er (bxN x.bs) p0 v0) (hv : objA 11 n p0 zP = (v, t)) (hin0 : InP x.L p0) : ExR (insP 11 n [v0] sA x.out) x x vs bt v t := by
 unfold objA at hv
 rw [if_pos rfl] at hv
 show ExR (if (v0.k = 1 ∨ v0.k = 2) ∧ n < (v0.l.length : Int) then .ok (v0.l.getD n.toNat zV) sA x.out 0 else .trap 5) x x vs bt v t
 rw [← he0.k, ← he0.l.len]
 by_cases hk : (p0.k = 1 ∨ p0.k = 2) ∧ n < (p0.l.length : Int)
 ·rw [if_pos hk] at hv
  obtain ⟨rfl, rfl⟩ := Prod.mk.inj hv
  rw [if_pos hk]
  exact ExR.val hx (he0.lkid n) (.inl (hin0.getD _))
 ·rw [if_neg hk] at hv
  obtain ⟨rfl, rfl⟩ := Prod.mk.inj hv
  rw [if_neg hk]
  exact ⟨rfl, rfl⟩
theorem ex_12 (hx : XOk x sA) (he0 : Er (bxN x.bs) p0 v0) (hv : objA 12 n p0 zP = (v, t)) (hin0 : InP x.L p0) : ExR (insP 12 n [v0] sA x.out) x x vs bt v t := by
 unfold objA at hv
 rw [if_neg (by decide)] at hv
 show ExR (if v0.k = 1 then .ok (wV v0.l.length) sA x.out 0 else .trap 5) x x vs bt v t
 rw [← he0.k, ← he0.l.len]
 by_cases hk : p0.k = 1
 ·rw [if_neg (by omega), if_neg (by decide), if_pos rfl] at hv
  obtain ⟨rfl, rfl⟩ := Prod.mk.inj hv
  rw [if_pos hk]
  exact ExR.val hx (erw _) (.inl (.inl rfl))
 ·rw [if_pos hk] at hv
  obtain ⟨rfl, rfl⟩ := Prod.mk.inj hv
  rw [if_neg hk]
  exact ⟨rfl, rfl⟩
theorem ex_21 (hx : XOk x sA) (he0 : Er (bxN x.bs) p0 v0) (he1 : Er (bxN x.bs) p1 v1) (hv : objA 21 n p0 p1 = (v, t)) (hin0 : InP x.L p0) : ExR (insP 21 n [v0, v1] sA x.out) x x vs bt v t := by
 unfold objA at hv
 rw [if_neg (by decide)] at hv
 show ExR (if v0.k ≠ 1 ∨ v1.k ≠ 0 then .trap 5 else if v1.n < 0 ∨ (v0.l.length : Int) ≤ v1.n then .trap 2 else .ok (v0.l.getD v1.n.toNat zV) sA x.out 0) x x vs bt v t
 rw [← he0.k, ← he1.k, ← he0.l.len]
 by_cases hk : p0.k = 1
 ·rw [if_neg (by omega), if_neg (by decide), if_neg (by decide)] at hv
  by_cases hk1 : p1.k = 0
  ·rw [if_neg (by omega)] at hv
   rw [if_neg (by omega), ← he1.num (by omega)]
   by_cases hb : p1.n < 0 ∨ (p0.l.length : Int) ≤ p1.n
   ·rw [if_pos hb] at hv ⊢
    obtain ⟨rfl, rfl⟩ := Prod.mk.inj hv
    exact ⟨rfl, rfl⟩
   ·rw [if_neg hb] at hv ⊢
    obtain ⟨rfl, rfl⟩ := Prod.mk.inj hv
    exact ExR.val hx (he0.lkid _) (.inl (hin0.getD _))
  ·rw [if_pos hk1] at hv
   obtain ⟨rfl, rfl⟩ := Prod.mk.inj hv
   rw [if_pos (by omega)]
   exact ⟨rfl, rfl⟩
 ·rw [if_pos hk] at hv
  obtain ⟨rfl, rfl⟩ := Prod.mk.inj hv
  rw [if_pos (.inl hk)]
  exact ⟨rfl, rfl⟩
end
end Go.Ss
namespace Go.Proofs.Ytehelljmaiophaa.ss
set_option maxRecDepth 100000
open Go.Eng Go.RowKit Go.Ss
theorem exec_0 (bm : Nat) (i : Go.Ss.In) (iy : Sc) (hform : formE i = 0) (hop : i.op = 0) (vs : List PV) (svs : List SV) (x : XS) (sA : List (List SV)) (hx : XOk x sA) (hvl : vs.length = i.args.length) (bt : Nat) (hE : Ers (bxN x.bs) vs svs) (hin : ∀ p ∈ vs, InP x.L p) (nf : Nat) (hwf : ∀ v ∈ svs, WfV nf sA.length v) (H : List Eng.Item) (S : List World) (s0 : World) (hs0 : s0 ∈ S) (w : World)
  (hc : Cls (blk bt 198 (cat pC vs) :: xI s0.heap.size bm x H) S w) :
  Calls Try.prog 141 [.pointer (some ⟨bm, 0, none⟩), .agg (inC i iy).toArray, .slice (some ⟨bt, 0, none⟩) vs.length vs.length].toArray w fun e w' =>
   ∃ v t x', e = .returned (.tuple #[.agg (pC v).toArray, .int .i64 t]) ∧ ExR (insP i.op i.n svs sA x.out) x x' vs bt v t ∧ Cls (blk bt 198 (cat pC vs) :: xI s0.heap.size bm x' H) S w' := by
 have hbs : ∃ s ∈ S, s0.heap.size ≤ s.heap.size := ⟨s0, hs0, Nat.le_refl _⟩
 obtain ⟨fa0, fa2, fa3, fa1, fa16, _⟩ := form_args hform
 obtain ⟨fn1, fn2⟩ := num_range hform
 unfold xI at hc ⊢
 refine enter Try.func141 rfl Try.ntmps141 rfl hc (zen ?_)
 unfold inC
 apply W.sr
 apply OL.box; rfl; rfl; exact CellsL.agg; (intro bk hbk; have hbk0 := hbk.mem s0 hs0)
 apply OL.alloc; rfl; rfl; exact CellsL.agg; (intro bk hbk; have hbk0 := hbk.mem s0 hs0)
 refine zgs ?_
 rename_i b4 hb4 hb40
 revert hbk0
 revert bk
 intro b6 hb6 hb60
 refine W.cnd ?_ ?_ <;> intro hq0 <;> try exact zwx hq0
 refine zgs ?_
 (((first | apply OL.op | apply QL.op); exact Guard.au; rfl; rfl); (exact Pev.call rfl (by exact Args.au) (fun _ w2 hw2 => (wordOf_calls _ w2).mono (fun e w3 h => ⟨h.1, hw2.ext h.2⟩))))
 refine zgs ?_
 exact At.finCT (b := b6) (cs := [.int .i64 0, .int .i64 i.n, .slice none 0 0, .pointer none]) rfl rfl (by exact mau) rfl rfl rfl (fun w' hw' => ⟨pw i.n, 0, x, rfl, by rw [hop]; exact ExR.val hx (erw _) (.inl (.inl rfl)), hw'.thin (.any (fun k hk => by rw [show k = b6 from hk]; exact hb6) (.any (fun k hk => by rw [show k = b4 from hk]; exact hb4) Thin.same))⟩)
theorem exec_8 (bm : Nat) (i : Go.Ss.In) (iy : Sc) (hform : formE i = 0) (hop : i.op = 8) (vs : List PV) (svs : List SV) (x : XS) (sA : List (List SV)) (hx : XOk x sA) (hvl : vs.length = i.args.length) (bt : Nat) (hE : Ers (bxN x.bs) vs svs) (hin : ∀ p ∈ vs, InP x.L p) (nf : Nat) (hwf : ∀ v ∈ svs, WfV nf sA.length v) (H : List Eng.Item) (S : List World) (s0 : World) (hs0 : s0 ∈ S) (w : World)
  (hc : Cls (blk bt 198 (cat pC vs) :: xI s0.heap.size bm x H) S w) :
  Calls Try.prog 141 [.pointer (some ⟨bm, 0, none⟩), .agg (inC i iy).toArray, .slice (some ⟨bt, 0, none⟩) vs.length vs.length].toArray w fun e w' =>
   ∃ v t x', e = .returned (.tuple #[.agg (pC v).toArray, .int .i64 t]) ∧ ExR (insP i.op i.n svs sA x.out) x x' vs bt v t ∧ Cls (blk bt 198 (cat pC vs) :: xI s0.heap.size bm x' H) S w' := by
 have hbs : ∃ s ∈ S, s0.heap.size ≤ s.heap.size := ⟨s0, hs0, Nat.le_refl _⟩
 obtain ⟨fa0, fa2, fa3, fa1, fa16, _⟩ := form_args hform
 obtain ⟨fn1, fn2⟩ := num_range hform
 unfold xI at hc ⊢
 refine enter Try.func141 rfl Try.ntmps141 rfl hc (zen ?_)
 unfold inC
 apply W.sr
 apply OL.box; rfl; rfl; exact CellsL.agg; (intro bk hbk; have hbk0 := hbk.mem s0 hs0)
 apply OL.alloc; rfl; rfl; exact CellsL.agg; (intro bk hbk; have hbk0 := hbk.mem s0 hs0)
 refine zgs ?_
 rename_i b4 hb4 hb40
 revert hbk0
 revert bk
 intro b6 hb6 hb60
 refine W.cnd ?_ ?_ <;> intro hq0 <;> try exact zwx hq0
 refine zgs ?_
 refine W.cnd ?_ ?_ <;> intro hq1 <;> try exact zwx hq1
 refine zgs ?_
 refine W.cnd ?_ ?_ <;> intro hq2 <;> try exact zwx hq2
 refine zgs ?_
 refine W.cnd ?_ ?_ <;> intro hq3 <;> try exact zwx hq3
 refine zgs ?_
 refine W.cnd ?_ ?_ <;> intro hq4 <;> try exact zwx hq4
 refine zgs ?_
 refine W.cnd ?_ ?_ <;> intro hq5 <;> try exact zwx hq5
 refine zgs ?_
 refine W.cnd ?_ ?_ <;> intro hq6 <;> try exact zwx hq6
 refine zgs ?_
 refine W.cnd ?_ ?_ <;> intro hq7 <;> try exact zwx hq7
 refine zgs ?_
 refine W.cnd ?_ ?_ <;> intro hq8 <;> try exact zwx hq8
 refine zgs ?_
 exact At.finCT (b := b6) (cs := [.int .i64 1, .int .i64 i.n, .slice (some ⟨bt, 0, none⟩) vs.length vs.length, .pointer none]) rfl rfl (by exact mau) rfl rfl rfl (fun w' hw' => ⟨.mk 1 i.n (some ⟨bt, 0, none⟩) vs.length 0 vs, 0, x, rfl, by rw [hop]; exact ExR.val hx (Er.of (by unfold bxN; rw [if_neg (by decide)]) hE) (.inr ⟨rfl, rfl⟩), hw'.thin (.any (fun k hk => by rw [show k = b6 from hk]; exact hb6) (.any (fun k hk => by rw [show k = b4 from hk]; exact hb4) Thin.same))⟩)
theorem exec_9 (bm : Nat) (i : Go.Ss.In) (iy : Sc) (hform : formE i = 0) (hop : i.op = 9) (vs : List PV) (svs : List SV) (x : XS) (sA : List (List SV)) (hx : XOk x sA) (hvl : vs.length = i.args.length) (bt : Nat) (hE : Ers (bxN x.bs) vs svs) (hin : ∀ p ∈ vs, InP x.L p) (nf : Nat) (hwf : ∀ v ∈ svs, WfV nf sA.length v) (H : List Eng.Item) (S : List World) (s0 : World) (hs0 : s0 ∈ S) (w : World)
  (hc : Cls (blk bt 198 (cat pC vs) :: xI s0.heap.size bm x H) S w) :
  Calls Try.prog 141 [.pointer (some ⟨bm, 0, none⟩), .agg (inC i iy).toArray, .slice (some ⟨bt, 0, none⟩) vs.length vs.length].toArray w fun e w' =>
   ∃ v t x', e = .returned (.tuple #[.agg (pC v).toArray, .int .i64 t]) ∧ ExR (insP i.op i.n svs sA x.out) x x' vs bt v t ∧ Cls (blk bt 198 (cat pC vs) :: xI s0.heap.size bm x' H) S w' := by
 have hbs : ∃ s ∈ S, s0.heap.size ≤ s.heap.size := ⟨s0, hs0, Nat.le_refl _⟩
 obtain ⟨fa0, fa2, fa3, fa1, fa16, _⟩ := form_args hform
 obtain ⟨fn1, fn2⟩ := num_range hform
 unfold xI at hc ⊢
 refine enter Try.func141 rfl Try.ntmps141 rfl hc (zen ?_)
 unfold inC
 apply W.sr
 apply OL.box; rfl; rfl; exact CellsL.agg; (intro bk hbk; have hbk0 := hbk.mem s0 hs0)
 apply OL.alloc; rfl; rfl; exact CellsL.agg; (intro bk hbk; have hbk0 := hbk.mem s0 hs0)
 refine zgs ?_
 rename_i b4 hb4 hb40
 revert hbk0
 revert bk
 intro b6 hb6 hb60
 refine W.cnd ?_ ?_ <;> intro hq0 <;> try exact zwx hq0
 refine zgs ?_
 refine W.cnd ?_ ?_ <;> intro hq1 <;> try exact zwx hq1
 refine zgs ?_
 refine W.cnd ?_ ?_ <;> intro hq2 <;> try exact zwx hq2
 refine zgs ?_
 refine W.cnd ?_ ?_ <;> intro hq3 <;> try exact zwx hq3
 refine zgs ?_
 refine W.cnd ?_ ?_ <;> intro hq4 <;> try exact zwx hq4
 refine zgs ?_
 refine W.cnd ?_ ?_ <;> intro hq5 <;> try exact zwx hq5
 refine zgs ?_
 refine W.cnd ?_ ?_ <;> intro hq6 <;> try exact zwx hq6
 refine zgs ?_
 refine W.cnd ?_ ?_ <;> intro hq7 <;> try exact zwx hq7
 refine zgs ?_
 refine W.cnd ?_ ?_ <;> intro hq8 <;> try exact zwx hq8
 refine zgs ?_
 refine W.cnd ?_ ?_ <;> intro hq9 <;> try exact zwx hq9
 refine zgs ?_
 exact At.finCT (b := b6) (cs := [.int .i64 2, .int .i64 i.n, .slice (some ⟨bt, 0, none⟩) vs.length vs.length, .pointer none]) rfl rfl (by exact mau) rfl rfl rfl (fun w' hw' => ⟨.mk 2 i.n (some ⟨bt, 0, none⟩) vs.length 0 vs, 0, x, rfl, by rw [hop]; exact ExR.val hx (Er.of (by unfold bxN; rw [if_neg (by decide)]) hE) (.inr ⟨rfl, rfl⟩), hw'.thin (.any (fun k hk => by rw [show k = b6 from hk]; exact hb6) (.any (fun k hk => by rw [show k = b4 from hk]; exact hb4) Thin.same))⟩)
theorem exec_10 (bm : Nat) (i : Go.Ss.In) (iy : Sc) (hform : formE i = 0) (hop : i.op = 10) (vs : List PV) (svs : List SV) (x : XS) (sA : List (List SV)) (hx : XOk x sA) (hvl : vs.length = i.args.length) (bt : Nat) (hE : Ers (bxN x.bs) vs svs) (hin : ∀ p ∈ vs, InP x.L p) (nf : Nat) (hwf : ∀ v ∈ svs, WfV nf sA.length v) (H : List Eng.Item) (S : List World) (s0 : World) (hs0 : s0 ∈ S) (w : World)
  (hc : Cls (blk bt 198 (cat pC vs) :: xI s0.heap.size bm x H) S w) :
  Calls Try.prog 141 [.pointer (some ⟨bm, 0, none⟩), .agg (inC i iy).toArray, .slice (some ⟨bt, 0, none⟩) vs.length vs.length].toArray w fun e w' =>
   ∃ v t x', e = .returned (.tuple #[.agg (pC v).toArray, .int .i64 t]) ∧ ExR (insP i.op i.n svs sA x.out) x x' vs bt v t ∧ Cls (blk bt 198 (cat pC vs) :: xI s0.heap.size bm x' H) S w' := by
 have hbs : ∃ s ∈ S, s0.heap.size ≤ s.heap.size := ⟨s0, hs0, Nat.le_refl _⟩
 obtain ⟨fa0, fa2, fa3, fa1, fa16, _⟩ := form_args hform
 obtain ⟨fn1, fn2⟩ := num_range hform
 obtain ⟨p0, v0, rfl, rfl, he0⟩ := hE.one (by omega)
 have hin0 := hin p0 (by simp)
 unfold xI at hc ⊢
 refine enter Try.func141 rfl Try.ntmps141 rfl hc (zen ?_)
 unfold inC
 apply W.sr
 apply OL.box; rfl; rfl; exact CellsL.agg; (intro bk hbk; have hbk0 := hbk.mem s0 hs0)
 apply OL.alloc; rfl; rfl; exact CellsL.agg; (intro bk hbk; have hbk0 := hbk.mem s0 hs0)
 refine zgs ?_
 rename_i b4 hb4 hb40
 revert hbk0
 revert bk
 intro b6 hb6 hb60
 refine W.cnd ?_ ?_ <;> intro hq0 <;> try exact zwx hq0
 refine zgs ?_
 refine W.cnd ?_ ?_ <;> intro hq1 <;> try exact zwx hq1
 refine zgs ?_
 refine W.cnd ?_ ?_ <;> intro hq2 <;> try exact zwx hq2
 refine zgs ?_
 refine W.cnd ?_ ?_ <;> intro hq3 <;> try exact zwx hq3
 refine zgs ?_
 refine W.cnd ?_ ?_ <;> intro hq4 <;> try exact zwx hq4
 refine zgs ?_
 refine W.cnd ?_ ?_ <;> intro hq5 <;> try exact zwx hq5
 refine zgs ?_
 refine W.cnd ?_ ?_ <;> intro hq6 <;> try exact zwx hq6
 refine zgs ?_
 refine W.cnd ?_ ?_ <;> intro hq7 <;> try exact zwx hq7
 refine zgs ?_
 refine W.cnd ?_ ?_ <;> intro hq8 <;> try exact zwx hq8
 refine zgs ?_
 refine W.cnd ?_ ?_ <;> intro hq9 <;> try exact zwx hq9
 refine zgs ?_
 refine W.cnd ?_ ?_ <;> intro hq10 <;> try exact zwx hq10
 apply W.sk
 refine W.cnd ?_ ?_ <;> intro hq11 <;> try exact zwx hq11
 refine zgs ?_
 obtain ⟨v, t, hv⟩ : ∃ v t, objA i.op i.n p0 zP = (v, t) := ⟨_, _, rfl⟩
 (((first | apply OL.op | apply QL.op); exact Guard.au; rfl; rfl); (exact Pev.call (v := .tuple #[.agg (pC v).toArray, .int .i64 t]) rfl (by exact Args.au) (fun _ w2 hw2 => (object_calls i iy _ (some ⟨bt, 0, none⟩) _ p0 zP rfl (fun h => by first | rfl | (exfalso; omega)) (by omega) (fun h => fn1 (.inl h)) w2 (argsAt hw2 (.tail _ (.tail _ (.head _))) (.tail _ (.tail _ (.tail _ (.tail _ (.tail _ (.head _)))))) hin)).mono (fun e w3 h => ⟨by rw [h.1, hv], hw2.ext h.2⟩))))
 refine zgs ?_
 refine At.finCT (b := b6) (cs := [.int .i64 v.k, .int .i64 v.n, .slice v.q v.l.length v.cap, .pointer (if v.k = 3 then some ⟨v.b, 0, none⟩ else none)]) rfl rfl (by exact mau) rfl rfl rfl (fun w' hw' => ⟨v, t, x, rfl, ?_, hw'.thin (.any (fun k hk => by rw [show k = b6 from hk]; exact hb6) (.any (fun k hk => by rw [show k = b4 from hk]; exact hb4) Thin.same))⟩)
 rw [hop] at hv ⊢
 exact ex_10 hx he0 hv hin0
theorem exec_11 (bm : Nat) (i : Go.Ss.In) (iy : Sc) (hform : formE i = 0) (hop : i.op = 11) (vs : List PV) (svs : List SV) (x : XS) (sA : List (List SV)) (hx : XOk x sA) (hvl : vs.length = i.args.length) (bt : Nat) (hE : Ers (bxN x.bs) vs svs) (hin : ∀ p ∈ vs, InP x.L p) (nf : Nat) (hwf : ∀ v ∈ svs, WfV nf sA.length v) (H : List Eng.Item) (S : List World) (s0 : World) (hs0 : s0 ∈ S) (w : World)
  (hc : Cls (blk bt 198 (cat pC vs) :: xI s0.heap.size bm x H) S w) :
  Calls Try.prog 141 [.pointer (some ⟨bm, 0, none⟩), .agg (inC i iy).toArray, .slice (some ⟨bt, 0, none⟩) vs.length vs.length].toArray w fun e w' =>
   ∃ v t x', e = .returned (.tuple #[.agg (pC v).toArray, .int .i64 t]) ∧ ExR (insP i.op i.n svs sA x.out) x x' vs bt v t ∧ Cls (blk bt 198 (cat pC vs) :: xI s0.heap.size bm x' H) S w' := by
 have hbs : ∃ s ∈ S, s0.heap.size ≤ s.heap.size := ⟨s0, hs0, Nat.le_refl _⟩
 obtain ⟨fa0, fa2, fa3, fa1, fa16, _⟩ := form_args hform
 obtain ⟨fn1, fn2⟩ := num_range hform
 obtain ⟨p0, v0, rfl, rfl, he0⟩ := hE.one (by omega)
 have hin0 := hin p0 (by simp)
 unfold xI at hc ⊢
 refine enter Try.func141 rfl Try.ntmps141 rfl hc (zen ?_)
 unfold inC
 apply W.sr
 apply OL.box; rfl; rfl; exact CellsL.agg; (intro bk hbk; have hbk0 := hbk.mem s0 hs0)
 apply OL.alloc; rfl; rfl; exact CellsL.agg; (intro bk hbk; have hbk0 := hbk.mem s0 hs0)
 refine zgs ?_
 rename_i b4 hb4 hb40
 revert hbk0
 revert bk
 intro b6 hb6 hb60
 refine W.cnd ?_ ?_ <;> intro hq0 <;> try exact zwx hq0
 refine zgs ?_
 refine W.cnd ?_ ?_ <;> intro hq1 <;> try exact zwx hq1
 refine zgs ?_
 refine W.cnd ?_ ?_ <;> intro hq2 <;> try exact zwx hq2
 refine zgs ?_
 refine W.cnd ?_ ?_ <;> intro hq3 <;> try exact zwx hq3
 refine zgs ?_
 refine W.cnd ?_ ?_ <;> intro hq4 <;> try exact zwx hq4
 refine zgs ?_
 refine W.cnd ?_ ?_ <;> intro hq5 <;> try exact zwx hq5
 refine zgs ?_
 refine W.cnd ?_ ?_ <;> intro hq6 <;> try exact zwx hq6
 refine zgs ?_
 refine W.cnd ?_ ?_ <;> intro hq7 <;> try exact zwx hq7
 refine zgs ?_
 refine W.cnd ?_ ?_ <;> intro hq8 <;> try exact zwx hq8
 refine zgs ?_
 refine W.cnd ?_ ?_ <;> intro hq9 <;> try exact zwx hq9
 refine zgs ?_
 refine W.cnd ?_ ?_ <;> intro hq10 <;> try exact zwx hq10
 refine zgs ?_
 refine W.cnd ?_ ?_ <;> intro hq11 <;> try exact zwx hq11
 apply W.sk
 refine W.cnd ?_ ?_ <;> intro hq12 <;> try exact zwx hq12
 refine zgs ?_
 obtain ⟨v, t, hv⟩ : ∃ v t, objA i.op i.n p0 zP = (v, t) := ⟨_, _, rfl⟩
 (((first | apply OL.op | apply QL.op); exact Guard.au; rfl; rfl); (exact Pev.call (v := .tuple #[.agg (pC v).toArray, .int .i64 t]) rfl (by exact Args.au) (fun _ w2 hw2 => (object_calls i iy _ (some ⟨bt, 0, none⟩) _ p0 zP rfl (fun h => by first | rfl | (exfalso; omega)) (by omega) (fun h => fn1 (.inl h)) w2 (argsAt hw2 (.tail _ (.tail _ (.head _))) (.tail _ (.tail _ (.tail _ (.tail _ (.tail _ (.head _)))))) hin)).mono (fun e w3 h => ⟨by rw [h.1, hv], hw2.ext h.2⟩))))
 refine zgs ?_
 refine At.finCT (b := b6) (cs := [.int .i64 v.k, .int .i64 v.n, .slice v.q v.l.length v.cap, .pointer (if v.k = 3 then some ⟨v.b, 0, none⟩ else none)]) rfl rfl (by exact mau) rfl rfl rfl (fun w' hw' => ⟨v, t, x, rfl, ?_, hw'.thin (.any (fun k hk => by rw [show k = b6 from hk]; exact hb6) (.any (fun k hk => by rw [show k = b4 from hk]; exact hb4) Thin.same))⟩)
 rw [hop] at hv ⊢
 exact ex_11 hx he0 hv hin0
theorem exec_12 (bm : Nat) (i : Go.Ss.In) (iy : Sc) (hform : formE i = 0) (hop : i.op = 12) (vs : List PV) (svs : List SV) (x : XS) (sA : List (List SV)) (hx : XOk x sA) (hvl : vs.length = i.args.length) (bt : Nat) (hE : Ers (bxN x.bs) vs svs) (hin : ∀ p ∈ vs, InP x.L p) (nf : Nat) (hwf : ∀ v ∈ svs, WfV nf sA.length v) (H : List Eng.Item) (S : List World) (s0 : World) (hs0 : s0 ∈ S) (w : World)
  (hc : Cls (blk bt 198 (cat pC vs) :: xI s0.heap.size bm x H) S w) :
  Calls Try.prog 141 [.pointer (some ⟨bm, 0, none⟩), .agg (inC i iy).toArray, .slice (some ⟨bt, 0, none⟩) vs.length vs.length].toArray w fun e w' =>
   ∃ v t x', e = .returned (.tuple #[.agg (pC v).toArray, .int .i64 t]) ∧ ExR (insP i.op i.n svs sA x.out) x x' vs bt v t ∧ Cls (blk bt 198 (cat pC vs) :: xI s0.heap.size bm x' H) S w' := by
 have hbs : ∃ s ∈ S, s0.heap.size ≤ s.heap.size := ⟨s0, hs0, Nat.le_refl _⟩
 obtain ⟨fa0, fa2, fa3, fa1, fa16, _⟩ := form_args hform
 obtain ⟨fn1, fn2⟩ := num_range hform
 obtain ⟨p0, v0, rfl, rfl, he0⟩ := hE.one (by omega)
 have hin0 := hin p0 (by simp)
 unfold xI at hc ⊢
 refine enter Try.func141 rfl Try.ntmps141 rfl hc (zen ?_)
 unfold inC
 apply W.sr
 apply OL.box; rfl; rfl; exact CellsL.agg; (intro bk hbk; have hbk0 := hbk.mem s0 hs0)
 apply OL.alloc; rfl; rfl; exact CellsL.agg; (intro bk hbk; have hbk0 := hbk.mem s0 hs0)
 refine zgs ?_
 rename_i b4 hb4 hb40
 revert hbk0
 revert bk
 intro b6 hb6 hb60
 refine W.cnd ?_ ?_ <;> intro hq0 <;> try exact zwx hq0
 refine zgs ?_
 refine W.cnd ?_ ?_ <;> intro hq1 <;> try exact zwx hq1
 refine zgs ?_
 refine W.cnd ?_ ?_ <;> intro hq2 <;> try exact zwx hq2
 refine zgs ?_
 refine W.cnd ?_ ?_ <;> intro hq3 <;> try exact zwx hq3
 refine zgs ?_
 refine W.cnd ?_ ?_ <;> intro hq4 <;> try exact zwx hq4
 refine zgs ?_
 refine W.cnd ?_ ?_ <;> intro hq5 <;> try exact zwx hq5
 refine zgs ?_
 refine W.cnd ?_ ?_ <;> intro hq6 <;> try exact zwx hq6
 refine zgs ?_
 refine W.cnd ?_ ?_ <;> intro hq7 <;> try exact zwx hq7
 refine zgs ?_
 refine W.cnd ?_ ?_ <;> intro hq8 <;> try exact zwx hq8
 refine zgs ?_
 refine W.cnd ?_ ?_ <;> intro hq9 <;> try exact zwx hq9
 refine zgs ?_
 refine W.cnd ?_ ?_ <;> intro hq10 <;> try exact zwx hq10
 refine zgs ?_
 refine W.cnd ?_ ?_ <;> intro hq11 <;> try exact zwx hq11
 refine zgs ?_
 refine W.cnd ?_ ?_ <;> intro hq12 <;> try exact zwx hq12
 apply W.sk
 refine W.cnd ?_ ?_ <;> intro hq13 <;> try exact zwx hq13
 refine zgs ?_
 obtain ⟨v, t, hv⟩ : ∃ v t, objA i.op i.n p0 zP = (v, t) := ⟨_, _, rfl⟩
 (((first | apply OL.op | apply QL.op); exact Guard.au; rfl; rfl); (exact Pev.call (v := .tuple #[.agg (pC v).toArray, .int .i64 t]) rfl (by exact Args.au) (fun _ w2 hw2 => (object_calls i iy _ (some ⟨bt, 0, none⟩) _ p0 zP rfl (fun h => by first | rfl | (exfalso; omega)) (by omega) (fun h => fn1 (.inl h)) w2 (argsAt hw2 (.tail _ (.tail _ (.head _))) (.tail _ (.tail _ (.tail _ (.tail _ (.tail _ (.head _)))))) hin)).mono (fun e w3 h => ⟨by rw [h.1, hv], hw2.ext h.2⟩))))
 refine zgs ?_
 refine At.finCT (b := b6) (cs := [.int .i64 v.k, .int .i64 v.n, .slice v.q v.l.length v.cap, .pointer (if v.k = 3 then some ⟨v.b, 0, none⟩ else none)]) rfl rfl (by exact mau) rfl rfl rfl (fun w' hw' => ⟨v, t, x, rfl, ?_, hw'.thin (.any (fun k hk => by rw [show k = b6 from hk]; exact hb6) (.any (fun k hk => by rw [show k = b4 from hk]; exact hb4) Thin.same))⟩)
 rw [hop] at hv ⊢
 exact ex_12 hx he0 hv hin0
theorem exec_21 (bm : Nat) (i : Go.Ss.In) (iy : Sc) (hform : formE i = 0) (hop : i.op = 21) (vs : List PV) (svs : List SV) (x : XS) (sA : List (List SV)) (hx : XOk x sA) (hvl : vs.length = i.args.length) (bt : Nat) (hE : Ers (bxN x.bs) vs svs) (hin : ∀ p ∈ vs, InP x.L p) (nf : Nat) (hwf : ∀ v ∈ svs, WfV nf sA.length v) (H : List Eng.Item) (S : List World) (s0 : World) (hs0 : s0 ∈ S) (w : World)
  (hc : Cls (blk bt 198 (cat pC vs) :: xI s0.heap.size bm x H) S w) :
  Calls Try.prog 141 [.pointer (some ⟨bm, 0, none⟩), .agg (inC i iy).toArray, .slice (some ⟨bt, 0, none⟩) vs.length vs.length].toArray w fun e w' =>
   ∃ v t x', e = .returned (.tuple #[.agg (pC v).toArray, .int .i64 t]) ∧ ExR (insP i.op i.n svs sA x.out) x x' vs bt v t ∧ Cls (blk bt 198 (cat pC vs) :: xI s0.heap.size bm x' H) S w' := by
 have hbs : ∃ s ∈ S, s0.heap.size ≤ s.heap.size := ⟨s0, hs0, Nat.le_refl _⟩
 obtain ⟨fa0, fa2, fa3, fa1, fa16, _⟩ := form_args hform
 obtain ⟨fn1, fn2⟩ := num_range hform
 obtain ⟨p0, p1, v0, v1, rfl, rfl, he0, he1⟩ := hE.two (by omega)
 have hin0 := hin p0 (by simp)
 have hin1 := hin p1 (by simp)
 unfold xI at hc ⊢
 refine enter Try.func141 rfl Try.ntmps141 rfl hc (zen ?_)
 unfold inC
 apply W.sr
 apply OL.box; rfl; rfl; exact CellsL.agg; (intro bk hbk; have hbk0 := hbk.mem s0 hs0)
 apply OL.alloc; rfl; rfl; exact CellsL.agg; (intro bk hbk; have hbk0 := hbk.mem s0 hs0)
 refine zgs ?_
 rename_i b4 hb4 hb40
 revert hbk0
 revert bk
 intro b6 hb6 hb60
 refine W.cnd ?_ ?_ <;> intro hq0 <;> try exact zwx hq0
 refine zgs ?_
 refine W.cnd ?_ ?_ <;> intro hq1 <;> try exact zwx hq1
 refine zgs ?_
 refine W.cnd ?_ ?_ <;> intro hq2 <;> try exact zwx hq2
 refine zgs ?_
 refine W.cnd ?_ ?_ <;> intro hq3 <;> try exact zwx hq3
 refine zgs ?_
 refine W.cnd ?_ ?_ <;> intro hq4 <;> try exact zwx hq4
 refine zgs ?_
 refine W.cnd ?_ ?_ <;> intro hq5 <;> try exact zwx hq5
 refine zgs ?_
 refine W.cnd ?_ ?_ <;> intro hq6 <;> try exact zwx hq6
 refine zgs ?_
 refine W.cnd ?_ ?_ <;> intro hq7 <;> try exact zwx hq7
 refine zgs ?_
 refine W.cnd ?_ ?_ <;> intro hq8 <;> try exact zwx hq8
 refine zgs ?_
 refine W.cnd ?_ ?_ <;> intro hq9 <;> try exact zwx hq9
 refine zgs ?_
 refine W.cnd ?_ ?_ <;> intro hq10 <;> try exact zwx hq10
 refine zgs ?_
 refine W.cnd ?_ ?_ <;> intro hq11 <;> try exact zwx hq11
 refine zgs ?_
 refine W.cnd ?_ ?_ <;> intro hq12 <;> try exact zwx hq12
 refine zgs ?_
 refine W.cnd ?_ ?_ <;> intro hq13 <;> try exact zwx hq13
 refine zgs ?_
 obtain ⟨v, t, hv⟩ : ∃ v t, objA i.op i.n p0 p1 = (v, t) := ⟨_, _, rfl⟩
 (((first | apply OL.op | apply QL.op); exact Guard.au; rfl; rfl); (exact Pev.call (v := .tuple #[.agg (pC v).toArray, .int .i64 t]) rfl (by exact Args.au) (fun _ w2 hw2 => (object_calls i iy _ (some ⟨bt, 0, none⟩) _ p0 p1 rfl (fun h => by first | rfl | (exfalso; omega)) (by omega) (fun h => fn1 (.inl h)) w2 (argsAt hw2 (.tail _ (.tail _ (.head _))) (.tail _ (.tail _ (.tail _ (.tail _ (.tail _ (.head _)))))) hin)).mono (fun e w3 h => ⟨by rw [h.1, hv], hw2.ext h.2⟩))))
 refine zgs ?_
 refine At.finCT (b := b6) (cs := [.int .i64 v.k, .int .i64 v.n, .slice v.q v.l.length v.cap, .pointer (if v.k = 3 then some ⟨v.b, 0, none⟩ else none)]) rfl rfl (by exact mau) rfl rfl rfl (fun w' hw' => ⟨v, t, x, rfl, ?_, hw'.thin (.any (fun k hk => by rw [show k = b6 from hk]; exact hb6) (.any (fun k hk => by rw [show k = b4 from hk]; exact hb4) Thin.same))⟩)
 rw [hop] at hv ⊢
 exact ex_21 hx he0 he1 hv hin0
end Go.Proofs.Ytehelljmaiophaa.ss
