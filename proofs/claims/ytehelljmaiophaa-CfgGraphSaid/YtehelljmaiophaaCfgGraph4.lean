/- Texts of the proof of CfgGraph, part 4: rules of a calculus for walking, plain laws, and walks of the functions that the law reaches. No condition. -/
import Derived.Sort.Grow
import Derived.Test.YtehelljmaiophaaProg
import Derived.Shelf.Lays
import Derived.Shelf.Sort.Plain
import Derived.Shelf.Slices.In.SortNone
import Derived.Shelf.Slices.Reverse
import Derived.SizedLaws
import Derived.Test.YtehelljmaiophaaCfgGraph3
/- The walks of the reference's visit and After. Conditions: none. -/
namespace Go.Eng
open Go.RowKit
theorem Cls.back23 {H : List Item} {S : List World} {w : World} {x y a b c : Item} (h : Cls (x :: y :: a :: b :: c :: H) S w) : Cls (a :: b :: c :: x :: y :: H) S w := h.perm (List.Perm.append_right H (List.perm_append_comm (l₁ := [x, y]) (l₂ := [a, b, c])))
theorem Cls.back32 {H : List Item} {S : List World} {w : World} {x y a b c : Item} (h : Cls (a :: b :: c :: x :: y :: H) S w) : Cls (x :: y :: a :: b :: c :: H) S w := h.perm (List.Perm.append_right H (List.perm_append_comm (l₁ := [a, b, c]) (l₂ := [x, y])))
end Go.Eng
namespace Go.Ss
open Go.Eng Go.RowKit
set_option linter.unusedVariables false
set_option linter.unusedSimpArgs false
/-- outputs and marks: each mark gives one output -/
theorem vis_cnt (G : List (List Int)) : ∀ (f k : Nat) (st : VS), st.1[k]? = some false → (vis G f k st).2.length + unseen (vis G f k st).1 = st.2.length + unseen st.1
  | 0, k, st, _ => rfl
  | f + 1, k, st, hk => by
    have hf : ∀ (l : List Int) (s : VS), (vfold G f s l).2.length + unseen (vfold G f s l).1 = s.2.length + unseen s.1 := by
      intro l
      induction l with
      | nil => exact fun s => rfl
      | cons e l ih =>
        intro s
        rw [vfold_cons, ih]
        unfold vstep
        split
        · rfl
        · rename_i hs
          exact vis_cnt G f e.toNat s (getD_false hs)
    have h1 := hf (nxt G k) (st.1.set k true, st.2)
    have h2 := unseen_set hk
    rw [vis_succ]
    simp only [List.length_append, List.length_cons, List.length_nil] at h1 ⊢
    omega
theorem visC_cnt {G : List (List Int)} {k : Nat} {st : VS} (h : st.1[k]? = some false) : (visC G k st).2.length + unseen (visC G k st).1 = st.2.length + unseen st.1 := vis_cnt G _ k st h
theorem foldC_cnt (G : List (List Int)) : ∀ (l : List Int) (s : VS), (foldC G s l).2.length + unseen (foldC G s l).1 = s.2.length + unseen s.1
  | [], s => rfl
  | e :: l, s => by
    rw [foldC_cons, foldC_cnt G l]
    unfold stepC
    split
    · rfl
    · rename_i hs
      exact visC_cnt (getD_false hs)
theorem foldC_snoc (G : List (List Int)) (s : VS) (l : List Int) (e : Int) : foldC G s (l ++ [e]) = stepC G (foldC G s l) e := by
  unfold foldC
  rw [List.foldl_append]
  rfl
end Go.Ss
namespace Go.Proofs.Ytehelljmaiophaa.ss
set_option maxRecDepth 100000
open Go.Eng Go.RowKit Go.Ss
set_option linter.unusedVariables false
set_option linter.unusedSimpArgs false
theorem visit_calls (s0 : World) (es : List (Bk × BkY)) (q : Option Addr) (cap : Nat) (nm : Int) (he : Arr bkR s0 (low s0) es q) (hlen : es.length ≤ 128) (hE : ∀ p ∈ es, ∀ e ∈ p.1.term.to_, 1 ≤ e.block ∧ e.block < (es.length : Int)) (bS b4 B : Nat) (hbS : s0.heap.size ≤ bS) (hb4 : s0.heap.size ≤ b4) (hB : s0.heap.size ≤ B) (SS : List World) (hs0 : s0 ∈ SS) (hBS : ∃ s ∈ SS, B ≤ s.heap.size) :
    ∀ (n k : Nat) (S : List Bool) (out : List Int) (O : Nat → Prop) (qo : Option Addr) (co : Nat) (H : List Eng.Item) (w : World), unseen S ≤ n → S.length = es.length → S[k]? = some false → out.length + unseen S ≤ es.length → (∀ k, k < s0.heap.size → NotOwned H k) →
      Cls (blk bS 4 (bls S) :: blk b4 35 [.slice qo out.length co] :: row B O qo out.length co 3 1 (ints out) :: H) SS w →
      Calls Try.prog 89 [.agg #[.int .i64 nm, .slice q es.length cap], .int .i64 (k : Int), .slice (some ⟨bS, 0, none⟩) es.length es.length, .pointer (some ⟨b4, 0, none⟩)].toArray w fun e w' => ∃ (O' : Nat → Prop) (qo' : Option Addr) (co' : Nat), e = .returned (.tuple #[]) ∧ Cls (blk bS 4 (bls (visC (graphB (es.map Prod.fst)) k (S, out)).1) :: blk b4 35 [.slice qo' (visC (graphB (es.map Prod.fst)) k (S, out)).2.length co'] :: row B O' qo' (visC (graphB (es.map Prod.fst)) k (S, out)).2.length co' 3 1 (ints (visC (graphB (es.map Prod.fst)) k (S, out)).2) :: H) SS w'
  | 0, k, S, out, O, qo, co, H, w, hn, _, hk, _, _, _ => by have := unseen_pos hk; omega
  | n + 1, k, S, out, O, qo, co, H, w, hn, hSl, hk, hcnt, hno, hc => by
    obtain ⟨G, hG⟩ : ∃ G, graphB (es.map Prod.fst) = G := ⟨_, rfl⟩
    have ih := visit_calls s0 es q cap nm he hlen hE bS b4 B hbS hb4 hB SS hs0 hBS n
    rw [hG] at ih ⊢
    have hkl : k < es.length := by rw [← hSl]; exact (List.getElem?_eq_some_iff.1 hk).1
    have hun := unseen_set hk
    rw [visC_eq G hk]
    obtain ⟨a, p, hqa, hab, hp, hcell, hok⟩ := he.get hkl
    have hab : a.block < s0.heap.size := hab
    have hcell : CellsAt s0 (a.add (k * 7)) [.slice p.2.p.1 p.1.params.length p.2.p.2, .slice p.2.i.1 p.1.ins.length p.2.i.2, .int .i64 p.1.term.kind, .int .i64 p.1.term.arg, .int .i64 p.1.term.n, .slice p.2.t.c.1 p.1.term.cases.length p.2.t.c.2, .slice p.2.t.t.1 p.1.term.to_.length p.2.t.t.2] := hcell
    have hpE := hE p (List.mem_of_getElem? hp)
    have hcT : s0.cell? ⟨(a.add (k * 7)).block, (a.add (k * 7)).off + 2 + 4, none⟩ = some (.slice p.2.t.t.1 p.1.term.to_.length p.2.t.t.2) := hcell 6 _ rfl
    have htl := hok.t.tl
    obtain ⟨ts, hts, harr⟩ := hok.t.t
    have htl2 : p.1.term.to_.length = ts.length := by rw [← hts, List.length_map]
    obtain ⟨l, hl⟩ : ∃ l, p.1.term.to_.map Ed.block = l := ⟨_, rfl⟩
    have hnx : nxt G k = l := by
      unfold nxt
      rw [List.getD_eq_getElem?_getD, ← hG, ← hl]
      simp [graphB, hp]
    have hll : l.length = ts.length := by rw [← hl, List.length_map, htl2]
    rw [hnx]
    subst hqa
    refine enter Try.func89 rfl Try.ntmps89 rfl hc ?_
    (simp only [argEnv, Nat.zero_add, Nat.reduceAdd])
    apply W.sr
    apply OL.box; rfl; rfl; exact CellsL.agg; intro bk hbk
    apply OL.nsr
    apply omv; rfl; rfl
    apply omv; rfl; rfl
    apply oop; rfl; apply Pev.idxB; rfl; exact yes; rfl; exact yes; rfl; intro hcond; omega; rfl
    revert bk
    intro bF hbF
    have hbF1 : AllLe SS bF := by first | exact hbF | exact AllLe.mk hc
    have hbF2 : s0.heap.size ≤ bF := hbF1.mem s0 hs0
    (apply OL.storeI); rfl; rfl; rfl; rfl; rfl; (exact Swap.au); (rw [bls_length]; omega)
    rw [show (bls S).set (0 + (k : Int).toNat * 1) (.bool true) = bls (S.set k true) by rw [show 0 + (k : Int).toNat * 1 = k by omega]; exact bls_set _ _ _]
    apply OL.nx
    apply W.seq
    apply W.sr
    apply ofa; rfl; rfl; rfl
    apply old; rfl; rfl; exact .head _; rfl; rfl
    apply omv; rfl; rfl
    apply oop; rfl; apply Pev.idx; rfl; exact yes; rfl; exact yes; rfl; rfl; intro hcond; omega
    apply oop; rfl; apply Pev.fldA; rfl; exact yes; rfl
    apply ofa; rfl; rfl; rfl
    apply oop; rfl; apply Pev.load_kept; rfl; exact yes; assumption; rfl; intro hcond; assumption; intro hcond; (rw [add_block]; assumption); intro hcond; exact NotOwned.au
    apply oop; rfl; apply Pev.len_slice; rfl; exact yes; rfl
    apply omv; rfl; rfl
    apply OL.nx
    apply W.block
    refine W.loop (G := Nat × GR) (fun g => g.1 ≤ ts.length) (fun g => ts.length - g.1)
      (fun g => [(1, true, .int .i64 (k : Int)), (2, true, .slice (some ⟨bS, 0, none⟩) es.length es.length), (3, true, .pointer (some ⟨b4, 0, none⟩)), (4, true, .pointer (some ⟨bF, 0, none⟩)), (19, true, .slice p.2.t.t.1 ts.length p.2.t.t.2), (20, true, .int .i64 (ts.length : Int)), (21, true, .int .i64 (g.1 : Int))])
      (fun g => Cls (blk bF 24 [.int .i64 nm, .slice (some a) es.length cap] :: blk bS 4 (bls (foldC G (S.set k true, out) (l.take g.1)).1) :: blk b4 35 [.slice g.2.q (foldC G (S.set k true, out) (l.take g.1)).2.length g.2.c] :: row B g.2.O g.2.q (foldC G (S.set k true, out) (l.take g.1)).2.length g.2.c 3 1 (ints (foldC G (S.set k true, out) (l.take g.1)).2) :: H) SS) (0, ⟨O, qo, co⟩) (by simp) (by rw [htl2]; exact Sub.au) (fun w' hw' => hw') ?_
    rintro ⟨j, ⟨Op, qp, cp⟩⟩ hj
    simp only at hj ⊢
    have hle := foldC_le G (l.take j) (S.set k true, out)
    have hct := foldC_cnt G (l.take j) (S.set k true, out)
    have hln := hle.len
    have hun2 := hle.un
    simp only [List.length_set] at hct hln hun2
    obtain ⟨st, hst⟩ : ∃ st, foldC G (S.set k true, out) (l.take j) = st := ⟨_, rfl⟩
    rw [hst] at hct hln hun2 ⊢
    apply W.sr
    apply obn; rfl; rfl; rfl; apply Bin.lss
    apply OL.nx
    apply W.seq
    (refine W.cnd (fun hlt => ?_) (fun hlt => ?_)) <;> (try (exfalso; first | omega | exact hlt trivial | contradiction))
    · have hjl : j < ts.length := by omega
      obtain ⟨ae, u, hqt, hatb, hu, hcu, hoku⟩ := harr.get hjl
      have hatb : ae.block < s0.heap.size := hatb
      have hcu : CellsAt s0 (ae.add (j * 2)) [.int .i64 u.1.block, .slice u.2.1 u.1.args.length u.2.2] := hcu
      have hto : p.1.term.to_[j]? = some u.1 := by rw [← hts, List.getElem?_map, hu]; rfl
      have hlj : l[j]? = some u.1.block := by rw [← hl, List.getElem?_map, hto]; rfl
      obtain ⟨hb0, hb1⟩ := hpE u.1 (List.mem_of_getElem? hto)
      obtain ⟨m, hm⟩ : ∃ m : Nat, u.1.block = (m : Int) := ⟨u.1.block.toNat, by omega⟩
      have hnst : foldC G (S.set k true, out) (l.take (j + 1)) = stepC G st (m : Int) := by
        rw [List.take_add_one, hlj, Option.toList_some, foldC_snoc, hst, hm]
      have hmS : st.1[m]? = some (st.1.getD m false) := getD_true (by omega)
      have hmv : (bls st.1)[0 + (m : Int).toNat * 1]? = some (.bool (st.1.getD m false)) := by
        rw [show 0 + (m : Int).toNat * 1 = m by omega]
        exact bls_get hmS
      rw [hm] at hcu
      rw [hqt]
      generalize hz : st.1.getD m false = z at *
      apply W.sk
      apply W.sb
      apply W.sr
      apply oop; rfl; apply Pev.idx; rfl; exact yes; rfl; exact yes; rfl; rfl; intro hcond; omega
      apply oop; rfl; apply Pev.load_keptA; rfl; exact yes; assumption; rfl; intro hcond; assumption; rfl; intro hcond; (rw [add_block]; assumption); intro hcond; exact NotOwned.au
      apply OL.alloc; rfl; rfl; exact CellsL.agg; intro bk hbk
      apply OL.storeB; rfl; rfl; exact CellsL.agg; rfl; rfl; rfl; exact Swap.au; exact Put.au
      apply OL.nsr
      apply omv; rfl; rfl
      apply ofa; rfl; rfl; rfl
      apply old; rfl; rfl; exact .head _; rfl; rfl
      apply oop; rfl; apply Pev.idxB; rfl; exact yes; rfl; exact yes; rfl; intro hcond; omega; rfl
      apply oop; rfl; apply Pev.load_blk; rfl; exact yes; exact .tail _ (.tail _ (.head _)); rfl; assumption
      apply oop; rfl; apply Pev.not; rfl; exact yes
      apply OL.nx
      revert bk
      intro b9 hb9
      have hb91 : AllLe SS b9 := by first | exact hb9 | exact AllLe.mk hc
      have hb92 : s0.heap.size ≤ b9 := hb91.mem s0 hs0
      cases hzv : z with
      | true =>
        rw [hzv] at hmS
        refine W.cond rfl (fun h9 => by cases h9) (fun h9 => ?_)
        apply W.skip
        with_reducible apply At.in_normal
        with_reducible apply At.next
        apply W.reg
        apply obn; rfl; rfl; rfl; apply Bin.add_in; omega
        apply omv; rfl; rfl
        apply OL.nil
        exact At.again (j + 1, ⟨Op, qp, cp⟩) (by simp only; omega) (by simp only; omega) (by exact Sub.au) (fun w' hw' => by
          simp only
          rw [hnst, stepC_seen (by simpa using hmS)]
          exact hw'.thin (.any (fun k hk => by rw [show k = b9 from hk]; exact hb91) Thin.same))
      | false =>
        rw [hzv] at hmS
        refine W.cond rfl (fun h9 => ?_) (fun h9 => by cases h9)
        apply W.reg
        apply oop; rfl; apply Pev.load_blkA; rfl; exact yes; exact .tail _ (.head _); rfl; exact Take.au
        apply ofa; rfl; rfl; rfl
        apply old; rfl; rfl; exact .head _; rfl; rfl
        apply omv; rfl; rfl
        apply omv; rfl; rfl
        refine OL.callE (α := GR) (fun _ => .tuple #[]) (fun _ => True) (fun g => Cls (blk b9 105 [.int .i64 (m : Int), .slice u.2.1 u.1.args.length u.2.2] :: blk bF 24 [.int .i64 nm, .slice (some a) es.length cap] :: blk bS 4 (bls (visC G m (st.1, st.2)).1) :: blk b4 35 [.slice g.q (visC G m (st.1, st.2)).2.length g.c] :: row B g.O g.q (visC G m (st.1, st.2)).2.length g.c 3 1 (ints (visC G m (st.1, st.2)).2) :: H) SS) rfl rfl (by exact Args.au) (fun w2 hw2 => (ih m st.1 st.2 Op qp cp (blk b9 105 [.int .i64 (m : Int), .slice u.2.1 u.1.args.length u.2.2] :: blk bF 24 [.int .i64 nm, .slice (some a) es.length cap] :: H) w2 (by omega) (by omega) hmS (by omega) (fun k hk => NotOwned.blk (by omega) (NotOwned.blk (by omega) (hno k hk))) hw2.back23).mono fun e w3 ⟨O', qo', co', h1, h2⟩ => ⟨⟨O', qo', co'⟩, h1, trivial, h2.back32⟩) ?_
        rintro ⟨O1, q1, c1⟩ _
        apply OL.nil
        with_reducible apply At.in_normal
        with_reducible apply At.next
        apply W.reg
        apply obn; rfl; rfl; rfl; apply Bin.add_in; omega
        apply omv; rfl; rfl
        apply OL.nil
        exact At.again (j + 1, ⟨O1, q1, c1⟩) (by simp only; omega) (by simp only; omega) (by exact Sub.au) (fun w' hw' => by
          simp only
          rw [hnst, stepC_new (by simpa using hmS)]
          exact hw'.thin (.any (fun k hk => by rw [show k = b9 from hk]; exact hb91) Thin.same))
    · obtain rfl : j = ts.length := by omega
      have hlt : l.take ts.length = l := by rw [← hll, List.take_length]
      rw [hlt] at hst
      rw [hst]
      have hol : st.2.length ≤ 128 := by omega
      refine W.xt ?_
      with_reducible apply At.next
      apply W.reg
      apply omv; rfl; rfl
      apply omv; rfl; rfl
      apply oop; rfl; apply Pev.nil_ptr; rfl; exact yes
      apply old; rfl; rfl; exact .tail _ (.tail _ (.head _)); rfl; rfl
      apply omv; rfl; rfl
      apply OL.buildSlice; rfl; rfl; rfl; exact Elems.au; rfl; rfl; intro bk hbk
      apply OL.append; rfl; rfl; rfl; rfl; exact Hole.au; exact .head _; exact Take.au; rfl; rfl; assumption; omega; intro O1 g1 cap1
      apply oop; rfl; apply Pev.nil_ptr; rfl; exact yes
      apply OL.storeB; rfl; rfl; exact CellsL.one rfl; rfl; rfl; rfl; exact Swap.au; exact Put.au
      apply OL.nil
      refine At.end_ (At.fin0 rfl (fun w' hw' => ⟨O1, some ⟨g1, 0, none⟩, cap1, rfl, ?_⟩))
      simp only [List.length_append, List.length_cons, List.length_nil, ints_append]
      exact hw'.thin (.any (fun k hk => by rw [show k = bk from hk]; first | exact hbk | exact AllLe.mk hc) (.any (fun k hk => by rw [show k = bF from hk]; exact hbF1) Thin.same))
theorem After_calls (es : List (Bk × BkY)) (q : Option Addr) (cap : Nat) (nm : Int) (w : World) (he : Arr bkR w (low w) es q) (hlen : es.length ≤ 128) (h0 : 0 < es.length) (hE : ∀ p ∈ es, ∀ e ∈ p.1.term.to_, 1 ≤ e.block ∧ e.block < (es.length : Int)) :
    Calls Try.prog 41 [.agg #[.int .i64 nm, .slice q es.length cap]].toArray w fun e w' => ∃ (O : Nat → Prop) (g : Option Addr) (c : Nat), e = .returned (.slice g (visC (graphB (es.map Prod.fst)) 0 (List.replicate es.length false, [])).2.length c) ∧ Cls [row w.heap.size O g (visC (graphB (es.map Prod.fst)) 0 (List.replicate es.length false, [])).2.length c 3 1 (ints (visC (graphB (es.map Prod.fst)) 0 (List.replicate es.length false, [])).2)] [w] w' := by
  refine enter Try.func41 rfl Try.ntmps41 rfl (Cls.start w) ?_
  (simp only [argEnv, Nat.zero_add, Nat.reduceAdd])
  apply W.sr
  apply OL.box; rfl; rfl; exact CellsL.agg; (intro bk hbk; simp only [AllLe, and_true] at hbk)
  apply oas; rfl; rfl
  apply OL.nsr
  apply ofa; rfl; rfl; rfl
  apply old; rfl; rfl; exact .head _; rfl; rfl
  apply oop; rfl; apply Pev.len_slice; rfl; exact yes; rfl
  apply OL.makeSlice; rfl; rfl; rfl; rfl; rfl; rfl; rfl; omega; (intro bk hbk; simp only [AllLe, and_true] at hbk)
  apply oas; rfl; rfl
  apply OL.nsr
  apply OL.alloc; rfl; rfl; exact CellsL.one rfl; (intro bk hbk; simp only [AllLe, and_true] at hbk)
  apply OL.nsr
  apply oop; rfl; apply Pev.load_blkA; rfl; exact yes; exact .tail _ (.tail _ (.head _)); rfl; exact Take.au
  apply omv; rfl; rfl
  rw [bls_zero]
  rename_i bF hbF bS hbS
  revert bk
  intro b4 hb4
  have hbF1 : w.heap.size ≤ bF := by first | exact hbF | exact hbF.1
  have hbS1 : w.heap.size ≤ bS := by first | exact hbS | exact hbS.1
  have hb41 : w.heap.size ≤ b4 := by first | exact hb4 | exact hb4.1
  have hV := fun w2 => visit_calls w es q cap nm he hlen hE bS b4 w.heap.size hbS1 hb41 (Nat.le_refl _) [w] (.head _) ⟨w, .head _, Nat.le_refl _⟩ es.length 0 (List.replicate es.length false) [] (fun _ => False) none 0 [blk bF 24 [.int .i64 nm, .slice q es.length cap]] w2 (by have := unseen_le (List.replicate es.length false); simpa using this) (by simp) (by simp [h0]) (by have := unseen_le (List.replicate es.length false); simpa using this) (fun k hk => NotOwned.blk (by omega) NotOwned.nil)
  obtain ⟨st, hst⟩ : ∃ st, visC (graphB (es.map Prod.fst)) 0 (List.replicate es.length false, []) = st := ⟨_, rfl⟩
  rw [hst] at hV ⊢
  refine OL.callE (α := GR) (fun _ => .tuple #[]) (fun _ => True) (fun g => Cls [blk bS 4 (bls st.1), blk b4 35 [.slice g.q st.2.length g.c], row w.heap.size g.O g.q st.2.length g.c 3 1 (ints st.2), blk bF 24 [.int .i64 nm, .slice q es.length cap]] [w]) rfl rfl (by exact Args.au) (fun w2 hw2 => (hV w2 (hw2.flip.row_nil w.heap.size 3 1).back2).mono fun e w3 ⟨O', qo', co', h1, h2⟩ => ⟨⟨O', qo', co'⟩, h1, trivial, h2⟩) ?_
  rintro ⟨O1, q1, c1⟩ _
  simp only
  apply OL.nsr
  apply old; rfl; rfl; exact .tail _ (.head _); rfl; rfl
  apply oas; rfl; rfl
  apply OL.nx
  apply W.ret
  ((with_reducible apply At.fin1); rfl; rfl; intro w' hw')
  exact ⟨O1, q1, c1, rfl, hw'.thin (.any (fun k hk => by rw [show k = bS from hk]; exact ⟨hbS1, trivial⟩) (.any (fun k hk => by rw [show k = b4 from hk]; exact ⟨hb41, trivial⟩) (.keep (.any (fun k hk => by rw [show k = bF from hk]; exact ⟨hbF1, trivial⟩) Thin.nil))))⟩
end Go.Proofs.Ytehelljmaiophaa.ss

/- The walks of cfg's search with what Order hands it. Conditions: none. -/
namespace Go.Eng
open Go.RowKit
theorem AllLe.of {k : Nat} : ∀ {S : List World}, (∀ s ∈ S, s.heap.size ≤ k) → AllLe S k
  | [], _ => trivial
  | s :: S, h => ⟨h s (.head _), AllLe.of fun x hx => h x (.tail _ hx)⟩
section
variable {P : Program} {n : Nat} {l : Env} {H : List Item} {S : List World} {ops : Array Oper} {rest : List Oper} {Q : Exit → Act → World → Prop} {t ty : TypeId} {x y : Operand} {pos : String} {af : Array Edge}
/-- a store of one cell into a grown row of elements of any size -/
theorem OL.storeRs {g0 o p base m cap size : Nat} {O : Nat → Prop} {e : TypeId} {xs : List Value} {v : Value} {F : Item → List Item} (hx : evl l x = some (true, .pointer (some ⟨g0, o, none⟩))) (hy : evl l y = some (true, v)) (hv : v.cells = #[v])
    (hs : sizeN P t = some 1) (h1 : oneL [v] = true) (hH : Hole p H (row base O (some ⟨g0, 0, none⟩) m cap e size xs) F) (hl : o < xs.length)
    (kk : OL P n ops Q rest l (Cls (F (row base O (some ⟨g0, 0, none⟩) m cap e size (xs.set o v))) S)) : OL P n ops Q (⟨none, .store t x y, ty, pos, af, none⟩ :: rest) l (Cls H S) := by
  obtain ⟨hp, hF⟩ := hH.eq
  rw [hF] at kk
  refine OL.store_ (C' := Cls (H.set p (row base O (some ⟨g0, 0, none⟩) m cap e size (xs.set o v))) S) rfl rfl (fun a w hs' hc => ?_) kk
  have hi := hc.item (List.mem_of_getElem? hp)
  obtain ⟨hO, hxl, hor⟩ := hi
  rcases hor with ⟨h3, _⟩ | ⟨gg, cap', cur, h3, hb, hg, h4, h5, h6, h7⟩
  · cases h3
  · simp only [Value.slice.injEq, Option.some.injEq, Addr.mk.injEq] at h3
    obtain ⟨⟨rfl, _⟩, _, rfl⟩ := h3
    have hcl : o < cur.toList.length := by
      rw [← h7, List.length_take] at hl
      omega
    obtain ⟨w', hr', hh, hkp⟩ := run_storeAt_blk (P := P) (o := o) (vs := [v]) (cs := cur.toList) (t' := e) (w := w) (b := g0) (by simpa using hg) hs hv rfl (show o + 1 ≤ cur.toList.length from hcl) h1
    refine ⟨w', ?_, hc.turn p hp (j := row base O (some ⟨g0, 0, none⟩) m cap e size (xs.set o v)) ⟨hkp.os, hkp.tape, hkp.output, hkp.size, fun k hk hn => hkp.block k hk (fun e2 => hn (by rw [show k = g0 from e2]; exact ⟨hb, hO _ rfl⟩))⟩ ?_ (fun q hq => ⟨.inl hq, Nat.lt_of_lt_of_le (hc.lt _ (List.mem_of_getElem? hp) q hq) hkp.size⟩) (fun q hq => hq)⟩
    · simp only [execOp, hs'.eval hx rfl, hs'.eval hy rfl, Sem.run_bind, hr', Result.andThen_ok]; rfl
    · refine ⟨hO, by rw [List.length_set]; exact hxl, .inr ⟨g0, cap, (cur.toList.set o v).toArray, rfl, hb, hh, h4, h5, by simpa using h6, ?_⟩⟩
      rw [← h7]
      simp only [List.take_set]
end
end Go.Eng
namespace Go.Ss
open Go.Eng Go.RowKit
set_option linter.unusedVariables false
set_option linter.unusedSimpArgs false
def plc (p : Nat × Nat) : List Value := [.int .i64 (p.1 : Int), .int .i64 (p.2 : Int)]
theorem plc_len : ∀ p, (plc p).length = 2 := fun _ => rfl
theorem mu_pop {G : List (List Int)} {D : Nat} {S : List Bool} {p : Nat × Nat} {r : List (Nat × Nat)} : muR G D S r < muR G D S (p :: r) := by
  unfold muR
  rw [List.map_cons, List.sum_cons]
  omega
theorem mu_seen {G : List (List Int)} {D : Nat} {S : List Bool} {b j : Nat} {r : List (Nat × Nat)} (h : j < (nxt G b).length) : muR G D S ((b, j + 1) :: r) < muR G D S ((b, j) :: r) := by
  unfold muR
  simp only [List.map_cons, List.sum_cons]
  omega
theorem mu_new {G : List (List Int)} {D : Nat} {S : List Bool} {b j m : Nat} {r : List (Nat × Nat)} (h : j < (nxt G b).length) (hm : S[m]? = some false) (hD : (nxt G m).length ≤ D) : muR G D (S.set m true) ((m, 0) :: (b, j + 1) :: r) < muR G D S ((b, j) :: r) := by
  have h1 := unseen_set hm
  unfold muR
  simp only [List.map_cons, List.sum_cons]
  rw [← h1, Nat.succ_mul]
  omega
/-- a state of the search -/
structure SgS where
  st : List (Nat × Nat)
  S : List Bool
  out : List Int
  y : GR
  z : GR
/-- what holds of it -/
structure SInv (G : List (List Int)) (n : Nat) (fin : VS) (g : SgS) : Prop where
  run : Go.Ss.run G g.st (g.S, g.out) = fin
  len : g.S.length = n
  cnt : g.st.length + g.out.length + unseen g.S ≤ n
  ok : ∀ p ∈ g.st, p.1 < n ∧ p.2 ≤ (nxt G p.1).length
end Go.Ss
namespace Go.Proofs.Ytehelljmaiophaa.ss
set_option maxRecDepth 100000
open Go.Eng Go.RowKit Go.Ss
set_option linter.unusedVariables false
set_option linter.unusedSimpArgs false
theorem leave_calls (b5 B : Nat) (k : Int) (out : List Int) (O : Nat → Prop) (q : Option Addr) (c : Nat) (H : List Eng.Item) (SS : List World) (w : World) (hBS : ∃ s ∈ SS, B ≤ s.heap.size) (hout : out.length ≤ 1000)
    (hc : Cls (blk b5 35 [.slice q out.length c] :: row B O q out.length c 3 1 (ints out) :: H) SS w) :
    Calls Try.prog 87 [.int .i64 k, .pointer (some ⟨b5, 0, none⟩)].toArray w fun e w' => ∃ (O' : Nat → Prop) (q' : Option Addr) (c' : Nat), e = .returned (.tuple #[]) ∧ Cls (blk b5 35 [.slice q' (out ++ [k]).length c'] :: row B O' q' (out ++ [k]).length c' 3 1 (ints (out ++ [k])) :: H) SS w' := by
  refine enter Try.func87 rfl Try.ntmps87 rfl hc ?_
  (simp only [argEnv, Nat.zero_add, Nat.reduceAdd])
  apply W.reg
  apply old; rfl; rfl; exact .head _; rfl; rfl
  apply omv; rfl; rfl
  apply OL.buildSlice; rfl; rfl; rfl; exact Elems.au; rfl; rfl; intro bk hbk
  apply OL.append; rfl; rfl; rfl; rfl; exact Hole.au; exact .head _; exact Take.au; rfl; rfl; assumption; omega; intro O1 g1 cap1
  apply OL.storeB; rfl; rfl; exact CellsL.one rfl; rfl; rfl; rfl; exact Swap.au; exact Put.au
  apply OL.nil
  refine At.end_ (At.fin0 rfl (fun w' hw' => ⟨O1, some ⟨g1, 0, none⟩, cap1, rfl, ?_⟩))
  simp only [List.length_append, List.length_cons, List.length_nil, ints_append]
  exact hw'.thin (.any (fun k hk => by rw [show k = bk from hk]; first | exact hbk | exact AllLe.mk hc) Thin.same)
theorem search_calls (s0 : World) (es : List (Bk × BkY)) (q : Option Addr) (cap : Nat) (nm : Int) (he : Arr bkR s0 (low s0) es q) (hlen : es.length ≤ 128) (h0 : 0 < es.length) (hE : ∀ p ∈ es, (∀ e ∈ p.1.term.to_, 1 ≤ e.block ∧ e.block < (es.length : Int)) ∧ p.1.term.to_.length ≤ 257) (b5 B : Nat) (hb5 : s0.heap.size ≤ b5) (hB : s0.heap.size ≤ B) (SS : List World) (hs0 : s0 ∈ SS) (hSS : ∀ s ∈ SS, s.heap.size ≤ s0.heap.size) (hBS : ∃ s ∈ SS, B ≤ s.heap.size) (O : Nat → Prop) (qo : Option Addr) (co : Nat) (H : List Eng.Item) (w : World) (hno : ∀ k, k < s0.heap.size → NotOwned H k)
    (hc : Cls (blk b5 35 [.slice qo 0 co] :: row B O qo 0 co 3 1 [] :: H) SS w) :
    Calls Try.prog 86 [.agg #[.int .i64 nm, .slice q es.length cap], .func (.func 87) ([] : List Value).toArray [.pointer (some ⟨b5, 0, none⟩)].toArray].toArray w fun e w' => ∃ (O' : Nat → Prop) (qo' : Option Addr) (co' : Nat), e = .returned (.tuple #[]) ∧ Cls (blk b5 35 [.slice qo' (visC (graphB (es.map Prod.fst)) 0 (List.replicate es.length false, [])).2.length co'] :: row B O' qo' (visC (graphB (es.map Prod.fst)) 0 (List.replicate es.length false, [])).2.length co' 3 1 (ints (visC (graphB (es.map Prod.fst)) 0 (List.replicate es.length false, [])).2) :: H) SS w' := by
  obtain ⟨G, hG⟩ : ∃ G, graphB (es.map Prod.fst) = G := ⟨_, rfl⟩
  have hGl : G.length = es.length := by rw [← hG]; simp [graphB]
  rw [hG]
  obtain ⟨fin, hfin⟩ : ∃ fin, visC G 0 (List.replicate es.length false, []) = fin := ⟨_, rfl⟩
  rw [hfin]
  have hnD : ∀ m, (nxt G m).length ≤ 257 := fun m => by
    unfold nxt
    rw [List.getD_eq_getElem?_getD, ← hG]
    unfold graphB
    rw [List.getElem?_map, List.getElem?_map]
    cases hm : es[m]? with
    | none => simp
    | some p => simp only [Option.map_some, Option.getD_some, List.length_map]; exact (hE p (List.mem_of_getElem? hm)).2
  have hS0 : (List.replicate es.length false)[0]? = some false := by simp [h0]
  have hu0 := unseen_set hS0
  have hu1 := unseen_le (List.replicate es.length false)
  rw [List.length_replicate] at hu1
  refine enter Try.func86 rfl Try.ntmps86 rfl hc ?_
  (simp only [argEnv, Nat.zero_add, Nat.reduceAdd])
  apply W.sr
  apply OL.box; rfl; rfl; exact CellsL.agg; intro bk hbk
  apply OL.nsr
  apply ofa; rfl; rfl; rfl
  apply old; rfl; rfl; exact .head _; rfl; rfl
  apply oop; rfl; apply Pev.len_slice; rfl; exact yes; rfl
  apply OL.makeSlice; rfl; rfl; rfl; rfl; rfl; rfl; rfl; omega; intro bk hbk
  apply oas; rfl; rfl
  apply OL.nsr
  apply omv; rfl; rfl
  apply oop; rfl; apply Pev.idxB; rfl; exact yes; rfl; exact yes; rfl; intro hcond; omega; rfl
  rename_i bF hbF
  revert bk
  intro bS hbS
  have hbF1 : AllLe SS bF := by first | exact hbF | exact AllLe.mk hc
  have hbF2 : s0.heap.size ≤ bF := hbF1.mem s0 hs0
  have hbS1 : AllLe SS bS := by first | exact hbS | exact AllLe.mk hc
  have hbS2 : s0.heap.size ≤ bS := hbS1.mem s0 hs0
  rw [bls_zero]
  (apply OL.storeI); rfl; rfl; rfl; rfl; rfl; (exact Swap.au); (rw [bls_length, List.length_replicate]; omega)
  rw [show (bls (List.replicate es.length false)).set (0 + Int.toNat 0 * 1) (.bool true) = bls ((List.replicate es.length false).set 0 true) from bls_set _ _ _]
  apply OL.nsr
  apply oop; rfl; apply Pev.build; rfl; exact CellsL.agg; rfl; exact Fill.au; rfl
  apply OL.buildSlice; rfl; rfl; rfl; exact Elems.au; rfl; rfl; intro bk hbk
  apply oas; rfl; rfl
  apply OL.nx
  apply W.block
  revert bk
  intro bP hbP
  have hbP1 : AllLe SS bP := by first | exact hbP | exact AllLe.mk hc
  have hbP2 : s0.heap.size ≤ bP := hbP1.mem s0 hs0
  have hlow : ∀ k, s0.heap.size ≤ k → AllLe SS k := fun k hk => AllLe.of fun s hs => Nat.le_trans (hSS s hs) hk
  refine W.loop (G := SgS) (fun g => SInv G es.length fin g) (fun g => muR G 257 g.S g.st)
    (fun g => [(1, true, .func (.func 87) ([] : List Value).toArray [.pointer (some ⟨b5, 0, none⟩)].toArray), (2, true, .pointer (some ⟨bF, 0, none⟩)), (4, true, .slice (some ⟨bS, 0, none⟩) es.length es.length), (5, true, .slice g.y.q g.st.length g.y.c)])
    (fun g => Cls (row s0.heap.size g.y.O g.y.q g.st.length g.y.c 183 2 (cat plc g.st.reverse) :: blk bS 4 (bls g.S) :: blk bF 24 [.int .i64 nm, .slice q es.length cap] :: blk b5 35 [.slice g.z.q g.out.length g.z.c] :: row B g.z.O g.z.q g.out.length g.z.c 3 1 (ints g.out) :: H) SS) ⟨[(0, 0)], (List.replicate es.length false).set 0 true, [], ⟨fun k => k = bP, some ⟨bP, 0, none⟩, 1⟩, ⟨O, qo, co⟩⟩ ⟨by simp only; rw [run_start hS0, hfin], by simp, by simp only [List.length_cons, List.length_nil]; omega, fun p hp => (by rw [show p = (0, 0) by simpa using hp]; exact ⟨h0, Nat.zero_le _⟩)⟩ (by exact Sub.au) (fun w' hw' => hw'.blk_row hbP2 rfl (by simp [maxLen])) ?_
  rintro ⟨st, S, out, ⟨Oy, qy, cy⟩, ⟨Oz, qz, cz⟩⟩ hI
  obtain ⟨hrun, hSl, hcnt, hok⟩ := hI
  simp only at hrun hSl hcnt hok ⊢
  cases hst : st with
  | nil =>
    subst hst
    apply W.seq
    apply W.sr
    apply omv; rfl; rfl
    apply oop; rfl; apply Pev.len_slice; rfl; exact yes; rfl
    apply obn; rfl; rfl; rfl; apply Bin.gtr
    apply OL.nx
    refine W.cond rfl (fun h => by simp at h) (fun h => ?_)
    refine W.xt ?_
    rw [run] at hrun
    refine At.end_ (At.fin0 rfl (fun w' hw' => ⟨Oz, qz, cz, rfl, ?_⟩))
    rw [← hrun]
    exact hw'.thin (.any (fun k hk => hlow k hk.1) (.any (fun k hk => by rw [show k = bS from hk]; exact hbS1) (.any (fun k hk => by rw [show k = bF from hk]; exact hbF1) Thin.same)))
  | cons p r =>
    obtain ⟨b, j⟩ := p
    subst hst
    simp only [List.length_cons] at hcnt ⊢
    refine W.fact (fun w2 hw2 => row_some (hw2.item (.head _)) (by omega)) ?_
    rintro ⟨gy, rfl⟩
    obtain ⟨hbl, hjl⟩ := hok (b, j) (.head _)
    simp only at hbl hjl
    obtain ⟨a, p, hqa, hab, hp, hcell, hokp⟩ := he.get hbl
    have hab : a.block < s0.heap.size := hab
    have hcT : s0.cell? ⟨(a.add (b * 7)).block, (a.add (b * 7)).off + 2 + 4, none⟩ = some (.slice p.2.t.t.1 p.1.term.to_.length p.2.t.t.2) := hcell 6 _ rfl
    obtain ⟨hpE, htl⟩ := hE p (List.mem_of_getElem? hp)
    obtain ⟨ts, hts, harr⟩ := hokp.t.t
    have htl2 : p.1.term.to_.length = ts.length := by rw [← hts, List.length_map]
    obtain ⟨l, hl⟩ : ∃ l, p.1.term.to_.map Ed.block = l := ⟨_, rfl⟩
    have hnx : nxt G b = l := by
      unfold nxt
      rw [List.getD_eq_getElem?_getD, ← hG, ← hl]
      simp [graphB, hp]
    have hll : l.length = ts.length := by rw [← hl, List.length_map, htl2]
    have hjt : j ≤ ts.length := by rw [← hll, ← hnx]; exact hjl
    obtain ⟨L, hLL⟩ : ∃ L, ((b, j) :: r).reverse = L := ⟨_, rfl⟩
    have hLr : L = r.reverse ++ [(b, j)] := by rw [← hLL, List.reverse_cons]
    have hLn : L.length = r.length + 1 := by rw [hLr]; simp
    have hLt : L[r.length]? = some (b, j) := by rw [hLr, List.getElem?_append_right (by simp)]; simp
    rw [hLL]
    rw [htl2] at hcT
    subst hqa
    apply W.seq
    apply W.sr
    apply omv; rfl; rfl
    apply oop; rfl; apply Pev.len_slice; rfl; exact yes; rfl
    apply obn; rfl; rfl; rfl; apply Bin.gtr
    apply OL.nx
    refine W.cond rfl (fun h => ?_) (fun h => by simp at h)
    apply W.sk
    apply W.block
    apply W.sr
    apply omv; rfl; rfl
    apply omv; rfl; rfl
    apply oop; rfl; apply Pev.len_slice; rfl; exact yes; rfl
    apply obn; rfl; rfl; rfl; apply Bin.sub_in; omega
    apply oop; rfl; apply Pev.idxB; rfl; exact yes; rfl; exact yes; rfl; intro hcond; omega; rfl
    apply oas; rfl; rfl
    apply OL.nx
    apply W.seq
    apply W.regd0; decide +kernel; kernel_rfl; decide +kernel; exact fun w hw => hw.drew
    apply qfa; rfl; rfl; rfl
    apply qld; rfl; rfl; exact .tail _ (.tail _ (.head _)); rfl; rfl
    apply qmv; rfl; rfl
    apply qop; rfl; apply Pev.nil_ptr; rfl; exact yes
    apply qfa; rfl; rfl; rfl
    apply qop; rfl; apply Pev.load_rowC; rfl; exact yes; exact .head _; rfl; exact fun _ => rfl; (intro hcond; assumption); rfl; (intro hcond; omega)
    apply qop; rfl; apply Pev.idx; rfl; exact yes; rfl; exact yes; rfl; rfl; intro hcond; omega
    apply qop; rfl; apply Pev.fldA; rfl; exact yes; rfl
    apply qfa; rfl; rfl; rfl
    apply qop; rfl; apply Pev.load_kept; rfl; exact yes; assumption; rfl; intro hcond; assumption; intro hcond; (rw [add_block]; assumption); intro hcond; exact NotOwned.au
    apply qas; rfl; rfl
    apply QL.nil
    with_reducible apply At.next
    apply W.seq
    apply W.sr
    apply omv; rfl; rfl
    apply oop; rfl; apply Pev.nil_ptr; rfl; exact yes
    apply ofa; rfl; rfl; rfl
    apply oop; rfl; apply Pev.load_rowC; rfl; exact yes; exact .head _; rfl; exact fun _ => rfl; (intro hcond; assumption); rfl; (intro hcond; omega)
    apply omv; rfl; rfl
    apply oop; rfl; apply Pev.len_slice; rfl; exact yes; rfl
    apply obn; rfl; rfl; rfl; apply Bin.eql
    apply OL.nx
    have hidx : (((r.length + 1 : Nat) : Int) - 1).toNat = r.length := by omega
    have hsub : ((r.length + 1 : Nat) : Int) - 1 = (r.length : Int) := by omega
    simp only [hidx, hsub]
    refine W.fact (fun w2 hw2 => row_cap (hw2.item (.head _))) ?_
    intro hcap
    (refine W.cnd (fun hje => ?_) (fun hje => ?_)) <;> (try (exfalso; first | omega | exact hje trivial | contradiction))
    · have hjn : j = ts.length := by omega
      apply W.sr
      apply omv; rfl; rfl
      apply omv; rfl; rfl
      apply oop; rfl; apply Pev.nil_ptr; rfl; exact yes
      apply ofa; rfl; rfl; rfl
      apply oop; rfl; apply Pev.load_rowC; rfl; exact yes; exact .head _; rfl; exact fun _ => rfl; (intro hcond; assumption); rfl; (intro hcond; omega)
      refine OL.callvE (α := GR) (first := []) (cap := [.pointer (some ⟨b5, 0, none⟩)]) (vs := [.int .i64 (b : Int)]) (fun _ => .tuple #[]) (fun _ => True) (fun g => Cls (row s0.heap.size Oy (some ⟨gy, 0, none⟩) (r.length + 1) cy 183 2 (cat plc L) :: blk bS 4 (bls S) :: blk bF 24 [.int .i64 nm, .slice (some a) es.length cap] :: blk b5 35 [.slice g.q (out ++ [(b : Int)]).length g.c] :: row B g.O g.q (out ++ [(b : Int)]).length g.c 3 1 (ints (out ++ [(b : Int)])) :: H) SS) rfl rfl rfl (by exact Args.au) (fun w2 hw2 => (leave_calls b5 B (b : Int) out Oz qz cz _ SS w2 hBS (by omega) hw2.back32).mono fun e w3 ⟨O', q', c', h1, h2⟩ => ⟨⟨O', q', c'⟩, h1, trivial, h2.back23⟩) ?_
      rintro ⟨O1, q1, c1⟩ _
      simp only
      apply OL.nsr
      apply omv; rfl; rfl
      apply omv; rfl; rfl
      apply oop; rfl; apply Pev.len_slice; rfl; exact yes; rfl
      apply obn; rfl; rfl; rfl; apply Bin.sub_in; omega
      apply oop; rfl; apply Pev.slice_hi; rfl; exact yes; rfl; exact yes; rfl; (first | exact (Int.toNat_of_nonneg (by omega)).symm | omega); intro hcond; omega
      apply oas; rfl; rfl
      apply OL.nx
      refine W.xt ?_
      simp only [hidx]
      refine At.again ⟨r, S, out ++ [(b : Int)], ⟨Oy, some ⟨gy, 0, none⟩, cy⟩, ⟨O1, q1, c1⟩⟩ ⟨by simp only; rw [← run_pop (j := j) (by rw [hnx, hll]; omega)]; exact hrun, hSl, by simp only [List.length_append, List.length_cons, List.length_nil]; omega, fun p hp => hok p (.tail _ hp)⟩ mu_pop (by exact Sub.au) (fun w' hw' => ?_)
      exact Cls.rowPop (p := 0) r.length (cat plc r.reverse) .z (by omega) (by rw [hLr, cat_append, ← List.length_reverse, ← cat_length plc_len, List.take_left]) hw'
    · have hjl2 : j < ts.length := by omega
      obtain ⟨ae, u, hqt, hatb, hu, hcu, hoku⟩ := harr.get hjl2
      have hatb : ae.block < s0.heap.size := hatb
      have hcu : CellsAt s0 (ae.add (j * 2)) [.int .i64 u.1.block, .slice u.2.1 u.1.args.length u.2.2] := hcu
      have hto : p.1.term.to_[j]? = some u.1 := by rw [← hts, List.getElem?_map, hu]; rfl
      have hlj : (nxt G b)[j]? = some u.1.block := by rw [hnx, ← hl, List.getElem?_map, hto]; rfl
      obtain ⟨hb0, hb1⟩ := hpE u.1 (List.mem_of_getElem? hto)
      obtain ⟨m, hm⟩ : ∃ m : Nat, u.1.block = (m : Int) := ⟨u.1.block.toNat, by omega⟩
      have hmS : S[m]? = some (S.getD m false) := getD_true (by omega)
      have hmv : (bls S)[0 + (m : Int).toNat * 1]? = some (.bool (S.getD m false)) := by
        rw [show 0 + (m : Int).toNat * 1 = m by omega]
        exact bls_get hmS
      rw [hm] at hcu hlj
      have hset : ∀ v, v = Value.int .i64 ((j : Int) + 1) → (cat plc L).set (0 + (r.length : Int).toNat * 2 + 1) v = cat plc (r.reverse ++ [(b, j + 1)]) := fun v hv => by
        rw [hv, hLr, cat_append, cat_append, show 0 + (r.length : Int).toNat * 2 + 1 = (cat plc r.reverse).length + 1 by rw [cat_length plc_len]; simp]
        rw [List.set_append_right _ _ (by omega), show (cat plc r.reverse).length + 1 - (cat plc r.reverse).length = 1 by omega]
        rfl
      generalize hz : S.getD m false = z at *
      rw [hqt]
      apply W.sk
      apply W.sr
      apply omv; rfl; rfl
      apply omv; rfl; rfl
      apply oop; rfl; apply Pev.nil_ptr; rfl; exact yes
      apply ofa; rfl; rfl; rfl
      apply oop; rfl; apply Pev.load_rowC; rfl; exact yes; exact .head _; rfl; exact fun _ => rfl; (intro hcond; assumption); rfl; (intro hcond; omega)
      apply oop; rfl; apply Pev.idx; rfl; exact yes; rfl; exact yes; rfl; rfl; intro hcond; omega
      apply oop; rfl; apply Pev.fldA; rfl; exact yes; rfl
      apply oop; rfl; apply Pev.load_kept; rfl; exact yes; assumption; rfl; intro hcond; apply CellsAt.at_ (by assumption) rfl; intro hcond; (simp only [add_block]; assumption); intro hcond; exact NotOwned.au
      apply oas; rfl; rfl
      apply OL.nsr
      apply omv; rfl; rfl
      apply oop; rfl; apply Pev.nil_ptr; rfl; exact yes
      apply ofa; rfl; rfl; rfl
      apply oop; rfl; apply Pev.load_rowC; rfl; exact yes; exact .head _; rfl; exact fun _ => rfl; (intro hcond; assumption); rfl; (intro hcond; omega)
      apply obn; rfl; rfl; rfl; apply Bin.add_in; omega
      apply oop; rfl; apply Pev.nil_ptr; rfl; exact yes
      apply ofa; rfl; rfl; rfl
      (apply OL.storeRs); rfl; rfl; rfl; rfl; rfl; (exact Hole.au); (rw [cat_length plc_len, hLn]; omega)
      rw [hset _ rfl]
      apply OL.nsr
      apply omv; rfl; rfl
      apply omv; rfl; rfl
      apply oop; rfl; apply Pev.idxB; rfl; exact yes; rfl; exact yes; rfl; intro hcond; omega; rfl
      apply oop; rfl; apply Pev.load_blk; rfl; exact yes; exact .tail _ (.head _); rfl; assumption
      apply oop; rfl; apply Pev.not; rfl; exact yes
      apply OL.nx
      cases hzv : z with
      | true =>
        rw [hzv] at hmS
        refine W.cond rfl (fun h9 => by cases h9) (fun h9 => ?_)
        apply W.skip
        with_reducible apply At.in_normal
        refine At.again ⟨(b, j + 1) :: r, S, out, ⟨Oy, some ⟨gy, 0, none⟩, cy⟩, ⟨Oz, qz, cz⟩⟩ ⟨by simp only; rw [← run_seen hlj (by simpa using hmS)]; exact hrun, hSl, by simp only [List.length_cons]; omega, fun p hp => ?_⟩ (mu_seen (by rw [hnx, hll]; exact hjl2)) (by exact Sub.au) (fun w' hw' => ?_)
        · rcases List.mem_cons.1 hp with rfl | hp
          · exact ⟨hbl, by simp only; rw [hnx, hll]; omega⟩
          · exact hok p (.tail _ hp)
        · simp only [List.reverse_cons]
          exact hw'
      | false =>
        rw [hzv] at hmS
        refine W.cond rfl (fun h9 => ?_) (fun h9 => by cases h9)
        apply W.sr
        apply omv; rfl; rfl
        apply omv; rfl; rfl
        apply oop; rfl; apply Pev.idxB; rfl; exact yes; rfl; exact yes; rfl; intro hcond; omega; rfl
        (apply OL.storeI); rfl; rfl; rfl; rfl; rfl; (exact Swap.au); (rw [bls_length]; omega)
        rw [show (bls S).set (0 + (m : Int).toNat * 1) (.bool true) = bls (S.set m true) by rw [show 0 + (m : Int).toNat * 1 = m by omega]; exact bls_set _ _ _]
        apply OL.nx
        apply W.reg
        apply omv; rfl; rfl
        apply omv; rfl; rfl
        apply oop; rfl; apply Pev.build; rfl; exact CellsL.agg; rfl; exact Fill.au; rfl
        apply OL.buildSlice; rfl; rfl; rfl; exact Elems.au; rfl; rfl; intro bk hbk
        apply OL.appendP; rfl; rfl; rfl; rfl; exact Hole.au; exact .head _; exact Take.au; rfl; rfl; omega; omega; intro O1 g1 cap1
        apply oas; rfl; rfl
        apply OL.nil
        with_reducible apply At.in_normal
        have hun := unseen_set hmS
        refine At.again ⟨(m, 0) :: (b, j + 1) :: r, S.set m true, out, ⟨O1, some ⟨g1, 0, none⟩, cap1⟩, ⟨Oz, qz, cz⟩⟩ ⟨?_, by simp [hSl], by simp only [List.length_cons]; omega, fun p hp => ?_⟩ (mu_new (by rw [hnx, hll]; exact hjl2) hmS (hnD m)) (by exact Sub.au) (fun w' hw' => ?_)
        · simp only
          have h5 := run_new (r := r) (out := out) hlj (by simpa using hmS)
          rw [Int.toNat_natCast] at h5
          rw [← h5]
          exact hrun
        · rcases List.mem_cons.1 hp with rfl | hp
          · exact ⟨by simp only; omega, Nat.zero_le _⟩
          · rcases List.mem_cons.1 hp with rfl | hp
            · exact ⟨hbl, by simp only; rw [hnx, hll]; omega⟩
            · exact hok p (.tail _ hp)
        · simp only [List.reverse_cons, cat_append, List.length_cons] at hw' ⊢
          exact hw'.thin (.any (fun k hk => by rw [show k = bk from hk]; first | exact hbk | exact AllLe.mk hc) Thin.same)
end Go.Proofs.Ytehelljmaiophaa.ss

/- A grown row that a function of the library writes over in place (a sort, a compaction). General. No condition. -/
namespace Go.Eng
open Go.RowKit Go.Sort
set_option linter.unusedVariables false
set_option linter.unusedSimpArgs false

theorem putCells_take {α : Type} [Inhabited α] (enc : α → Value) (d : Array α) (c : Array Value) (h : d.size ≤ c.size) : (putCells enc 0 d c).toList.take d.size = d.toList.map enc := by
  apply List.ext_getElem?
  intro j
  rw [List.getElem?_take, List.getElem?_map]
  by_cases hj : j < d.size
  · rw [if_pos hj, Array.getElem?_toList, Array.getElem?_toList]
    unfold putCells
    rw [Array.getElem?_mapIdx, Array.getElem?_eq_getElem (show j < c.size by omega), Array.getElem?_eq_getElem hj]
    simp only [Option.map_some]
    rw [if_pos ⟨Nat.zero_le _, by omega⟩, Nat.sub_zero, getElem!_pos d j hj]
  · rw [if_neg hj, Array.getElem?_toList, Array.getElem?_eq_none (by omega)]; rfl
theorem putRow_heap {α : Type} [Inhabited α] (enc : α → Value) (w : World) (n g : Nat) (d : Array α) (os : Array Obj) {cur : Array Value} {e : TypeId} {fr : Nat × Nat} (hg : w.heap[g]? = some (.cells cur e fr)) :
    (grow (putRow enc (Sort.ahead w n) g 0 d) os).heap[g]? = some (.cells (putCells enc 0 d cur) e fr) := by
  have hlt : g < w.heap.size := (Array.getElem?_eq_some_iff.1 hg).1
  show ((w.heap.modify g (onCells (putCells enc 0 d))) ++ os)[g]? = _
  rw [Array.getElem?_append_left (by simpa using hlt), Array.getElem?_modify, if_pos rfl, hg]
  rfl
theorem putRow_other {α : Type} [Inhabited α] (enc : α → Value) (w : World) (n g : Nat) (d : Array α) (os : Array Obj) {k : Nat} (hk : k < w.heap.size) (hne : k ≠ g) :
    (grow (putRow enc (Sort.ahead w n) g 0 d) os).heap[k]? = w.heap[k]? := by
  show ((w.heap.modify g (onCells (putCells enc 0 d))) ++ os)[k]? = _
  rw [Array.getElem?_append_left (by simpa using hk), Array.getElem?_modify, if_neg (fun e => hne e.symm)]
theorem putRow_size {α : Type} [Inhabited α] (enc : α → Value) (w : World) (n g : Nat) (d : Array α) (os : Array Obj) : w.heap.size ≤ (grow (putRow enc (Sort.ahead w n) g 0 d) os).heap.size := by
  show _ ≤ ((w.heap.modify g (onCells (putCells enc 0 d))) ++ os).size
  simp
theorem Cls.rowPut {α : Type} [Inhabited α] {enc : α → Value} {p : Nat} {H : List Eng.Item} {S : List World} {w w' : World} {base m cap g n : Nat} {O : Nat → Prop} {e : TypeId} {xs : List Value} {F : Eng.Item → List Eng.Item}
    (hh : Hole p H (row base O (some ⟨g, 0, none⟩) m cap e 1 xs) F) (h : Cls H S w) (d : Array α) (hd : d.size = m) {os : Array Obj} (hw : w' = grow (putRow enc (Sort.ahead w n) g 0 d) os) : Cls (F (row base O (some ⟨g, 0, none⟩) m cap e 1 (d.toList.map enc))) S w' := by
  subst hw
  obtain ⟨h1, h2⟩ := hh.eq
  rw [h2]
  have hi := h.holds _ (List.mem_of_getElem? h1)
  have hO : O g := hi.1 _ rfl
  rcases hi.2.2 with ⟨h3, _⟩ | ⟨g', cap', cur, h3, hb, hg, h4, h5, h6, h7⟩
  · cases h3
  simp only [Value.slice.injEq, Option.some.injEq, Addr.mk.injEq] at h3
  obtain ⟨⟨rfl, _⟩, _, rfl⟩ := h3
  refine h.turn p h1 ⟨rfl, rfl, rfl, putRow_size _ _ _ _ _ _, fun k hk hno => putRow_other _ _ _ _ _ _ hk fun e => hno (by subst e; exact ⟨hb, hO⟩)⟩ ?_ (fun k hk => ⟨.inl hk, Nat.lt_of_lt_of_le (h.lt _ (List.mem_of_getElem? h1) k hk) (putRow_size _ _ _ _ _ _)⟩) (fun k hk => hk)
  refine ⟨fun a ha => by cases ha; exact hO, by simp [hd], .inr ⟨g, cap, _, rfl, hb, putRow_heap enc w n g d os hg, h4, h5, ?_, ?_⟩⟩
  · simp only [putCells, Array.size_mapIdx]; exact h6
  · rw [Nat.mul_one, ← hd]
    exact putCells_take enc d cur (by omega)
/-- what the library's contracts on rows ask -/
theorem row_holds {α : Type} [Inhabited α] {enc : α → Value} {w : World} {base m cap g : Nat} {O : Nat → Prop} {e : TypeId} {d : Array α} (h : (row base O (some ⟨g, 0, none⟩) m cap e 1 (d.toList.map enc)).holds w) : Holds enc w g 0 d ∧ g < w.heap.size := by
  rcases h.2.2 with ⟨h3, _⟩ | ⟨g', cap', cur, h3, hb, hg, h4, h5, h6, h7⟩
  · cases h3
  simp only [Value.slice.injEq, Option.some.injEq, Addr.mk.injEq] at h3
  obtain ⟨⟨rfl, _⟩, _, rfl⟩ := h3
  refine ⟨fun j hj => ⟨?_, ?_⟩, (Array.getElem?_eq_some_iff.1 hg).1⟩
  · rw [Nat.zero_add]
    refine row_cell h ?_
    rw [List.getElem?_map, Array.getElem?_toList, Array.getElem?_eq_getElem hj, getElem!_pos d j hj]; rfl
  · simp [World.frozen?, hg]
end Go.Eng

/-
  DERIVED: THE SHELF's CONTRACTS AT THIS DUMP, IN PLAIN WORDS (tools/lay-plain.mjs out of 'YtehelljmaiophaaShelfD.lean', which tools/lay-shelf.mjs wrote): THE SAME DECLARATIONS UNDER THE SAME NAMES: 'import', 'namespace', 'open', 'def', 'theorem' AND NOTHING ELSE: no command of the shelf's: FOR A HAND-IN. Each laying: the table of numbers ('.._ren') and one theorem, a field a fact of the dump's own or the kernel's comparison; each contract: ONE APPLICATION.
-/
namespace Go.Proofs
open Go.Shelf
def Try.lays189_ren : Go.Shelf.Ren := ⟨fun | 189 => 85 | 125 => 126 | 257 => 125 | 128 => 159 | 129 => 160 | 294 => 151 | 295 => 152 | 296 => 153 | 297 => 154 | 298 => 155 | 299 => 156 | 216 => 134 | 300 => 157 | 301 => 158 | 328 => 174 | 329 => 175 | 330 => 176 | 331 => 177 | 332 => 178 | 215 => 162 | 343 => 186 | n => n, fun | 28 => 35 | 3 => 3 | 46 => 181 | 0 => 0 | 51 => 217 | 53 => 172 | 4 => 4 | 183 => 212 | 182 => 211 | 131 => 147 | 5 => 5 | 9 => 9 | 218 => 227 | 222 => 231 | 228 => 236 | 229 => 237 | n => n, fun | n => n⟩
theorem Try.lays189 : Go.Proofs.Lays.n189 Try.prog Try.lays189_ren := {
  mixed := by kernel_rfl
  f125 := Try.func126.trans (congrArg some (by kernel_rfl))
  f128 := Try.func159.trans (congrArg some (by kernel_rfl))
  f129 := Try.func160.trans (congrArg some (by kernel_rfl))
  f189 := Try.func85.trans (congrArg some (by kernel_rfl))
  f215 := Try.func162.trans (congrArg some (by kernel_rfl))
  f216 := Try.func134.trans (congrArg some (by kernel_rfl))
  f257 := Try.func125.trans (congrArg some (by kernel_rfl))
  f294 := Try.func151.trans (congrArg some (by kernel_rfl))
  f295 := Try.func152.trans (congrArg some (by kernel_rfl))
  f296 := Try.func153.trans (congrArg some (by kernel_rfl))
  f297 := Try.func154.trans (congrArg some (by kernel_rfl))
  f298 := Try.func155.trans (congrArg some (by kernel_rfl))
  f299 := Try.func156.trans (congrArg some (by kernel_rfl))
  f300 := Try.func157.trans (congrArg some (by kernel_rfl))
  f301 := Try.func158.trans (congrArg some (by kernel_rfl))
  f328 := Try.func174.trans (congrArg some (by kernel_rfl))
  f329 := Try.func175.trans (congrArg some (by kernel_rfl))
  f330 := Try.func176.trans (congrArg some (by kernel_rfl))
  f331 := Try.func177.trans (congrArg some (by kernel_rfl))
  f332 := Try.func178.trans (congrArg some (by kernel_rfl))
  f343 := Try.func186.trans (congrArg some (by kernel_rfl))
  t0 := Try.underlying0
  a0 := Try.isAgg0
  z0 := Try.sizeOf0
  v0 := Try.zeroValue0
  t3 := Try.underlying3
  a3 := Try.isAgg3
  z3 := Try.sizeOf3
  v3 := Try.zeroValue3
  t4 := Try.underlying4
  a4 := Try.isAgg4
  z4 := Try.sizeOf4
  v4 := Try.zeroValue4
  t5 := Try.underlying5
  a5 := Try.isAgg5
  z5 := Try.sizeOf5
  v5 := Try.zeroValue5
  t9 := Try.underlying9
  a9 := Try.isAgg9
  z9 := Try.sizeOf9
  v9 := Try.zeroValue9
  t28 := Try.underlying35
  a28 := Try.isAgg35
  z28 := Try.sizeOf35
  v28 := Try.zeroValue35
  t46 := Try.underlying181
  a46 := Try.isAgg181
  z46 := Try.sizeOf181
  v46 := Try.zeroValue181
  t51 := Try.underlying217
  a51 := Try.isAgg217
  z51 := Try.sizeOf217
  v51 := Try.zeroValue217
  t53 := Try.underlying172
  a53 := Try.isAgg172
  z53 := Try.sizeOf172
  v53 := Try.zeroValue172
  t131 := Try.underlying147
  a131 := Try.isAgg147
  z131 := Try.sizeOf147
  v131 := Try.zeroValue147
  t182 := Try.underlying211
  a182 := Try.isAgg211
  z182 := Try.sizeOf211
  v182 := Try.zeroValue211
  t183 := Try.underlying212
  a183 := Try.isAgg212
  z183 := Try.sizeOf212
  v183 := Try.zeroValue212
  t218 := Try.underlying227
  a218 := Try.isAgg227
  z218 := Try.sizeOf227
  v218 := Try.zeroValue227
  t222 := Try.underlying231
  a222 := Try.isAgg231
  z222 := Try.sizeOf231
  v222 := Try.zeroValue231
  t228 := Try.underlying236
  a228 := Try.isAgg236
  z228 := Try.sizeOf236
  v228 := Try.zeroValue236
  t229 := Try.underlying237
  a229 := Try.isAgg237
  z229 := Try.sizeOf237
  v229 := Try.zeroValue237 }
def Try.lays112_ren : Go.Shelf.Ren := ⟨fun | 112 => 88 | n => n, fun | 28 => 35 | 3 => 3 | 4 => 4 | 0 => 0 | n => n, fun | n => n⟩
theorem Try.lays112 : Go.Proofs.Lays.n112 Try.prog Try.lays112_ren := {
  mixed := by kernel_rfl
  f112 := Try.func88.trans (congrArg some (by kernel_rfl))
  t0 := Try.underlying0
  a0 := Try.isAgg0
  z0 := Try.sizeOf0
  v0 := Try.zeroValue0
  t3 := Try.underlying3
  a3 := Try.isAgg3
  z3 := Try.sizeOf3
  v3 := Try.zeroValue3
  t4 := Try.underlying4
  a4 := Try.isAgg4
  z4 := Try.sizeOf4
  v4 := Try.zeroValue4
  t28 := Try.underlying35
  a28 := Try.isAgg35
  z28 := Try.sizeOf35
  v28 := Try.zeroValue35 }
end Go.Proofs

/- The walks of cfg's Order and Reachable. Conditions: none. -/
namespace Go.Eng
open Go.RowKit
theorem Cls.plus {H : List Eng.Item} {S : List World} {w2 w3 : World} {i : Eng.Item} (h : Cls H S w2) (hc : Cls [i] [w2] w3) (ho : ∀ k, i.own k → w2.heap.size ≤ k) : Cls (i :: H) S w3 :=
  h.add (hc.toExt (.head _) (fun k hk => NotOwned.any (fun hm => by have := ho k hm; omega) .nil)) i (hc.holds _ (.head _)) (fun k hk => ⟨ho k hk, hc.lt _ (.head _) k hk⟩)
theorem Cls.row_base {H : List Eng.Item} {S : List World} {w : World} {B B' m cap size : Nat} {O : Nat → Prop} {q : Option Addr} {e : TypeId} {xs : List Value} (h : Cls (row B O q m cap e size xs :: H) S w) (hB : B' ≤ B) : Cls (row B' (fun k => B ≤ k ∧ O k) q m cap e size xs :: H) S w := by
  have hd := List.pairwise_cons.1 h.dj
  refine ⟨fun i hi => ?_, fun i hi => ?_, .cons (fun j hj k hk => hd.1 j hj k hk.2) hd.2, fun s hs => (h.kp s hs).mono fun k _ ⟨j, hj, hjk⟩ => ?_⟩
  · cases hi with
    | head =>
      have h0 : (row B O q m cap e size xs).holds w := h.holds _ (.head _)
      refine ⟨fun a ha => ⟨?_, h0.1 a ha⟩, h0.2.1, ?_⟩
      · rcases h0.2.2 with ⟨h3, _⟩ | ⟨g, cap', cur, h3, hb, _⟩
        · rw [ha] at h3; cases h3
        · rw [ha] at h3
          simp only [Value.slice.injEq, Option.some.injEq] at h3
          rw [h3.1]; exact hb
      · rcases h0.2.2 with h3 | ⟨g, cap', cur, h3, hb, h4⟩
        · exact .inl h3
        · exact .inr ⟨g, cap', cur, h3, by omega, h4⟩
    | tail _ hi => exact h.holds _ (.tail _ hi)
  · cases hi with
    | head => exact fun k hk => h.lt (row B O q m cap e size xs) (.head _) k hk.2
    | tail _ hi => exact h.lt _ (.tail _ hi)
  · cases hj with
    | head =>
      have hjk' : B ≤ k ∧ O k := hjk
      exact ⟨_, .head _, by omega, hjk'⟩
    | tail _ hj => exact ⟨_, .tail _ hj, hjk⟩
end Go.Eng
namespace Go.Ss
open Go.Eng Go.RowKit
set_option linter.unusedVariables false
set_option linter.unusedSimpArgs false
def isrt (l : List Int) : List Int := l.mergeSort fun x y => decide (x ≤ y)
theorem isrt_perm (l : List Int) : (isrt l).Perm l := List.mergeSort_perm l _
theorem isrt_len (l : List Int) : (isrt l).length = l.length := (isrt_perm l).length_eq
theorem isrt_mem {l : List Int} {n : Int} : n ∈ isrt l ↔ n ∈ l := (isrt_perm l).mem_iff
theorem isrt_sorted (l : List Int) : (isrt l).Pairwise (· ≤ ·) := by
  have := List.pairwise_mergeSort (le := fun x y : Int => decide (x ≤ y)) (fun a b c h1 h2 => by simp at *; omega) (fun a b => by simp; omega) l
  exact this.imp fun h => by simpa using h
end Go.Ss
namespace Go.Proofs.Ytehelljmaiophaa.ss
open Go.Eng Go.RowKit Go.Ss Go.Shelf Go.Sort
set_option linter.unusedVariables false
set_option linter.unusedSimpArgs false
set_option maxRecDepth 100000
theorem SortI_calls {p : Nat} {H : List Eng.Item} {S : List World} {w : World} {base cap : Nat} {O : Nat → Prop} {q : Option Addr} {xs : List Int} {F : Eng.Item → List Eng.Item}
    (hh : Hole p H (Eng.row base O q xs.length cap 3 1 (ints xs)) F) (h : Cls H S w) (hlen : xs.length < 4611686018427387904) :
    Calls Try.prog 85 #[.slice q xs.length cap] w fun e w' => e = .returned (.tuple #[]) ∧ Cls (F (Eng.row base O q xs.length cap 3 1 (ints (isrt xs)))) S w' := by
  by_cases h0 : xs.length = 0
  · obtain rfl : xs = [] := List.eq_nil_of_length_eq_zero h0
    refine (Any.slices_Sort_int_none Try.lays189 q cap w).mono fun e w' he => ⟨he.1, ?_⟩
    rw [he.2]
    have e2 : isrt [] = [] := by simp [isrt]
    rw [e2, hh.eq.2, set_same hh.eq.1]
    exact h
  · have hi := h.holds _ (List.mem_of_getElem? hh.eq.1)
    obtain ⟨g, rfl⟩ : ∃ g, q = some ⟨g, 0, none⟩ := by
      rcases hi.2.2 with ⟨h3, h4⟩ | ⟨g', cap', cur, h3, _⟩
      · omega
      · exact ⟨g', by simp only [Value.slice.injEq] at h3; exact h3.1⟩
    obtain ⟨h1, h2⟩ := row_holds (enc := Value.int .i64) (d := xs.toArray) hi
    have hc := Any.slices_Sort_int Try.lays189 g 0 cap xs w h1 h2 hlen
    refine hc.mono fun e w' he => ⟨he.1, ?_⟩
    obtain ⟨n, os, hw⟩ := he.2
    have hp := Cls.rowPut hh h (isrt xs).toArray (by simp [isrt_len]) hw
    exact hp
theorem RevI_calls {p : Nat} {H : List Eng.Item} {S : List World} {w : World} {base cap : Nat} {O : Nat → Prop} {q : Option Addr} {xs : List Int} {F : Eng.Item → List Eng.Item}
    (hh : Hole p H (Eng.row base O q xs.length cap 3 1 (ints xs)) F) (h : Cls H S w) (hlen : xs.length ≤ 9223372036854775807) :
    Calls Try.prog 88 #[.slice q xs.length cap] w fun e w' => e = .returned (.tuple #[]) ∧ Cls (F (Eng.row base O q xs.length cap 3 1 (ints xs.reverse))) S w' := by
  by_cases h0 : xs.length = 0
  · obtain rfl : xs = [] := List.eq_nil_of_length_eq_zero h0
    refine (Any.slices_Reverse_int_empty Try.lays112 q cap w).mono fun e w' he => ⟨he.1, ?_⟩
    rw [he.2, List.reverse_nil, hh.eq.2, set_same hh.eq.1]
    exact h
  · have hi := h.holds _ (List.mem_of_getElem? hh.eq.1)
    obtain ⟨g, rfl⟩ : ∃ g, q = some ⟨g, 0, none⟩ := by
      rcases hi.2.2 with ⟨h3, h4⟩ | ⟨g', cap', cur, h3, _⟩
      · omega
      · exact ⟨g', by simp only [Value.slice.injEq] at h3; exact h3.1⟩
    obtain ⟨h1, h2⟩ := row_holds (enc := Value.int .i64) (d := xs.toArray) hi
    have hc := Any.slices_Reverse_int Try.lays112 g 0 cap xs w h1 hlen
    refine hc.mono fun e w' he => ⟨he.1, ?_⟩
    obtain ⟨n, hw⟩ := he.2
    have hw2 : w' = grow (putRow (Value.int .i64) (Sort.ahead w n) g 0 xs.reverse.toArray) #[] := by rw [hw]; unfold grow; rw [Array.append_empty]
    have hp := Cls.rowPut hh h xs.reverse.toArray (by simp) hw2
    exact hp
theorem Order_calls (fn : Go.Ss.Fn) (y : FnY) (w : World) (hfn : FnOk w (low w) fn y) :
    Calls Try.prog 38 [.agg (fnC fn y).toArray].toArray w fun e w' => (funcE fn ≠ 0 ∧ e = .returned (.tuple #[.slice none 0 0, .int .i64 (funcE fn)]) ∧ Ext w w') ∨ (funcE fn = 0 ∧ ∃ (O : Nat → Prop) (q : Option Addr) (c : Nat), e = .returned (.tuple #[.slice q (visC (graphB fn.blocks) 0 (List.replicate fn.blocks.length false, [])).2.reverse.length c, .int .i64 0]) ∧ Cls [row w.heap.size O q (visC (graphB fn.blocks) 0 (List.replicate fn.blocks.length false, [])).2.reverse.length c 3 1 (ints (visC (graphB fn.blocks) 0 (List.replicate fn.blocks.length false, [])).2.reverse)] [w] w') := by
  have hfn0 := hfn
  obtain ⟨es, hes, he⟩ := hfn.b
  obtain ⟨nm, bs⟩ := fn
  obtain ⟨q, cap⟩ := y
  have hbl := hfn.bl
  simp only at hes he hbl ⊢
  have hbl2 : bs.length = es.length := by rw [← hes, List.length_map]
  refine enter Try.func38 rfl Try.ntmps38 rfl (Cls.start w) ?_
  (simp only [argEnv, Nat.zero_add, Nat.reduceAdd])
  simp only [fnC]
  rw [hbl2]
  apply W.sr
  apply OL.box; rfl; rfl; exact CellsL.agg; (intro bk hbk; simp only [AllLe, and_true] at hbk)
  apply oas; rfl; rfl
  apply oas; rfl; rfl
  apply OL.nx
  apply W.seq
  apply W.sr
  apply oop; rfl; apply Pev.load_blkA; rfl; exact yes; exact .head _; rfl; exact Take.au
  revert bk
  intro bF hbF
  have hbF1 : w.heap.size ≤ bF := by first | exact hbF | exact hbF.1
  have hC : ∀ w2, Cls [blk bF 24 [.int .i64 nm, .slice q es.length cap]] [w] w2 → Calls Try.prog 30 [.agg #[.int .i64 nm, .slice q es.length cap]].toArray w2 fun e w' => e = .returned (.int .i64 (funcE ⟨nm, bs⟩)) ∧ Ext w2 w' := fun w2 hw2 => by
    have h1 := CheckFunc_calls ⟨nm, bs⟩ ⟨q, cap⟩ w2 (fnR.mono (hw2.up (.head _)) (fnR.stab (hw2.same (.head _) (fun k hk => by exact NotOwned.au)) hfn0))
    simp only [fnC] at h1
    rw [hbl2] at h1
    exact h1
  (((first | (with_reducible apply OL.op) | (with_reducible apply QL.op)); (exact Guard.au); rfl; rfl); (exact Pev.call (v := .int .i64 (funcE ⟨nm, bs⟩)) rfl (by exact Args.au) (fun _ w2 hw2 => (hC w2 hw2).mono (fun e w3 h => ⟨h.1, hw2.ext h.2⟩))))
  apply oas; rfl; rfl
  apply OL.nsr
  apply omv; rfl; rfl
  apply obn; rfl; rfl; rfl; apply Bin.neq
  apply OL.nx
  (refine W.cnd (fun hne => ?_) (fun hne => ?_)) <;> (try (exfalso; first | omega | exact hne trivial | contradiction))
  · apply W.sr
    apply omv; rfl; rfl
    apply oas; rfl; rfl
    apply oas; rfl; rfl
    apply OL.nx
    refine W.rt ?_
    ((with_reducible apply At.fin2); rfl; rfl; rfl; intro w' hw')
    exact .inl ⟨hne, rfl, by (exact hw'.fr)⟩
  have hf0 : funcE ⟨nm, bs⟩ = 0 := by simpa using hne
  obtain ⟨h0, h128, hs0⟩ := func_zero hf0
  simp only at h0 h128 hs0
  have hEE : ∀ p ∈ es, (∀ e ∈ p.1.term.to_, 1 ≤ e.block ∧ e.block < (es.length : Int)) ∧ p.1.term.to_.length ≤ 257 := fun p hp => by
    have hpb : p.1 ∈ bs := by rw [← hes]; exact List.mem_map_of_mem hp
    refine ⟨fun e hpe => ?_, to_len hs0 hpb⟩
    have := shape_edges hs0 p.1 hpb e hpe
    omega
  obtain ⟨st, hst⟩ : ∃ st, visC (graphB bs) 0 (List.replicate es.length false, []) = st := ⟨_, rfl⟩
  have hcn : st.2.length ≤ es.length := by
    have h1 := visC_cnt (G := graphB bs) (k := 0) (st := (List.replicate es.length false, [])) (by simp [show 0 < es.length by omega])
    have h2 := unseen_le (List.replicate es.length false)
    rw [hst] at h1
    simp at h1 h2
    omega
  rw [hst]
  apply W.sk
  apply W.sr
  apply OL.alloc; rfl; rfl; exact CellsL.one rfl; (intro bk hbk; simp only [AllLe, and_true] at hbk)
  apply OL.nsr
  apply oop; rfl; apply Pev.load_blkA; rfl; exact yes; exact .tail _ (.head _); rfl; exact Take.au
  apply oop; rfl; apply Pev.makeFunc; exact Args.au; exact Args.au
  revert bk
  intro b5 hb5
  have hb51 : w.heap.size ≤ b5 := by first | exact hb5 | exact hb5.1
  have hS := fun w2 => search_calls w es q cap nm he (by omega) (by omega) hEE b5 w.heap.size hb51 (Nat.le_refl _) [w] (.head _) (fun s hs => by rw [List.mem_singleton.1 hs]; exact Nat.le_refl _) ⟨w, .head _, Nat.le_refl _⟩ (fun _ => False) none 0 [blk bF 24 [.int .i64 nm, .slice q es.length cap]] w2 (fun k hk => NotOwned.blk (by omega) NotOwned.nil)
  rw [hes, hst] at hS
  refine OL.callE (α := GR) (fun _ => .tuple #[]) (fun _ => True) (fun g => Cls [blk b5 35 [.slice g.q st.2.length g.c], row w.heap.size g.O g.q st.2.length g.c 3 1 (ints st.2), blk bF 24 [.int .i64 nm, .slice q es.length cap]] [w]) rfl rfl (by exact Args.au) (fun w2 hw2 => (hS w2 (hw2.row_nil w.heap.size 3 1).flip).mono fun e w3 ⟨O', qo', co', h1, h2⟩ => ⟨⟨O', qo', co'⟩, h1, trivial, h2⟩) ?_
  rintro ⟨O1, q1, c1⟩ _
  simp only
  apply OL.nsr
  apply old; rfl; rfl; exact .head _; rfl; rfl
  refine OL.callE (α := Unit) (fun _ => .tuple #[]) (fun _ => True) (fun _ => Cls [blk b5 35 [.slice q1 st.2.length c1], row w.heap.size O1 q1 st.2.length c1 3 1 (ints st.2.reverse), blk bF 24 [.int .i64 nm, .slice q es.length cap]] [w]) rfl rfl (by exact Args.au) (fun w2 hw2 => (RevI_calls (xs := st.2) (.s .z) hw2 (by omega)).mono fun e w3 ⟨h1, h2⟩ => ⟨(), h1, trivial, h2⟩) ?_
  rintro _ _
  apply OL.nsr
  apply old; rfl; rfl; exact .head _; rfl; rfl
  apply oas; rfl; rfl
  apply oas; rfl; rfl
  apply OL.nx
  apply W.ret
  ((with_reducible apply At.fin2); rfl; rfl; rfl; intro w' hw')
  refine .inr ⟨hf0, O1, q1, c1, by rw [List.length_reverse], ?_⟩
  rw [List.length_reverse]
  exact hw'.thin (.any (fun k hk => by rw [show k = b5 from hk]; exact ⟨hb51, trivial⟩) (.keep (.any (fun k hk => by rw [show k = bF from hk]; exact ⟨hbF1, trivial⟩) Thin.nil)))
theorem Reachable_calls (fn : Go.Ss.Fn) (y : FnY) (w : World) (hfn : FnOk w (low w) fn y) :
    Calls Try.prog 37 [.agg (fnC fn y).toArray].toArray w fun e w' => (funcE fn ≠ 0 ∧ e = .returned (.tuple #[.slice none 0 0, .int .i64 (funcE fn)]) ∧ Ext w w') ∨ (funcE fn = 0 ∧ ∃ (O : Nat → Prop) (q : Option Addr) (c : Nat), e = .returned (.tuple #[.slice q (isrt (visC (graphB fn.blocks) 0 (List.replicate fn.blocks.length false, [])).2.reverse).length c, .int .i64 0]) ∧ Cls [row w.heap.size O q (isrt (visC (graphB fn.blocks) 0 (List.replicate fn.blocks.length false, [])).2.reverse).length c 3 1 (ints (isrt (visC (graphB fn.blocks) 0 (List.replicate fn.blocks.length false, [])).2.reverse))] [w] w') := by
  have hfn0 := hfn
  obtain ⟨nm, bs⟩ := fn
  obtain ⟨q, cap⟩ := y
  simp only
  obtain ⟨l, hl⟩ : ∃ l, (visC (graphB bs) 0 (List.replicate bs.length false, [])).2.reverse = l := ⟨_, rfl⟩
  have hll : funcE ⟨nm, bs⟩ = 0 → l.length ≤ 128 := fun hf => by
    obtain ⟨h0, h128, _⟩ := func_zero hf
    simp only at h0 h128
    have h1 := visC_cnt (G := graphB bs) (k := 0) (st := (List.replicate bs.length false, [])) (by simp [h0])
    have h2 := unseen_le (List.replicate bs.length false)
    rw [← hl, List.length_reverse]
    simp at h1 h2
    omega
  rw [hl]
  have hO := fun w2 (S : List World) (H : List Eng.Item) (hw2 : Cls H S w2) (hs : w ∈ S) (hno : ∀ k, k < w.heap.size → NotOwned H k) => Order_calls ⟨nm, bs⟩ ⟨q, cap⟩ w2 (fnR.mono (hw2.up hs) (fnR.stab (hw2.same hs hno) hfn0))
  simp only [fnC, hl] at hO
  refine enter Try.func37 rfl Try.ntmps37 rfl (Cls.start w) ?_
  (simp only [argEnv, Nat.zero_add, Nat.reduceAdd])
  simp only [fnC]
  apply W.sr
  apply OL.box; rfl; rfl; exact CellsL.agg; (intro bk hbk; simp only [AllLe, and_true] at hbk)
  apply oas; rfl; rfl
  apply oas; rfl; rfl
  apply OL.nsr
  apply oop; rfl; apply Pev.load_blkA; rfl; exact yes; exact .head _; rfl; exact Take.au
  revert bk
  intro bF hbF
  have hbF1 : w.heap.size ≤ bF := by first | exact hbF | exact hbF.1
  by_cases hf : funcE ⟨nm, bs⟩ = 0
  · refine OL.callE (α := GR × Nat) (fun z => .tuple #[.slice z.1.q l.length z.1.c, .int .i64 0]) (fun z => w.heap.size ≤ z.2) (fun z => Cls [row z.2 z.1.O z.1.q l.length z.1.c 3 1 (ints l), blk bF 24 [.int .i64 nm, .slice q bs.length cap]] [w]) rfl rfl (by exact Args.au) (fun w2 hw2 => (hO w2 _ _ hw2 (by exact mau) (fun k hk => by exact NotOwned.au)).mono fun e w3 h => ?_) ?_
    · rcases h with ⟨h1, _⟩ | ⟨_, O', q', c', h1, h2⟩
      · exact absurd hf h1
      · exact ⟨(⟨O', q', c'⟩, w2.heap.size), h1, (hw2.kp w (by exact mau)).size, hw2.plus h2 (fun k hk => hk.1)⟩
    rintro ⟨⟨O1, q1, c1⟩, B⟩ hB
    simp only at hB ⊢
    apply omv; rfl; rfl
    apply oex; rfl; rfl; rfl
    apply oex; rfl; rfl; rfl
    apply oas; rfl; rfl
    apply oas; rfl; rfl
    apply OL.nsr
    apply omv; rfl; rfl
    refine OL.callE (α := Unit) (fun _ => .tuple #[]) (fun _ => True) (fun _ => Cls [row B O1 q1 l.length c1 3 1 (ints (isrt l)), blk bF 24 [.int .i64 nm, .slice q bs.length cap]] [w]) rfl rfl (by exact Args.au) (fun w2 hw2 => (SortI_calls (xs := l) .z hw2 (by have := hll hf; omega)).mono fun e w3 ⟨h1, h2⟩ => ⟨(), h1, trivial, h2⟩) ?_
    rintro _ _
    apply OL.nsr
    apply omv; rfl; rfl
    apply omv; rfl; rfl
    apply oas; rfl; rfl
    apply oas; rfl; rfl
    apply OL.nx
    apply W.ret
    ((with_reducible apply At.fin2); rfl; rfl; rfl; intro w' hw')
    refine .inr ⟨hf, fun k => B ≤ k ∧ O1 k, q1, c1, by rw [isrt_len], ?_⟩
    rw [isrt_len]
    exact (hw'.row_base hB).thin (.keep (.any (fun k hk => by rw [show k = bF from hk]; exact ⟨hbF1, trivial⟩) Thin.nil))
  · refine OL.callE (α := Unit) (fun z => .tuple #[.slice none 0 0, .int .i64 (funcE ⟨nm, bs⟩)]) (fun z => True) (fun z => Cls [blk bF 24 [.int .i64 nm, .slice q bs.length cap]] [w]) rfl rfl (by exact Args.au) (fun w2 hw2 => (hO w2 _ _ hw2 (by exact mau) (fun k hk => by exact NotOwned.au)).mono fun e w3 h => ?_) ?_
    · rcases h with ⟨_, h1, h2⟩ | ⟨h1, _⟩
      · exact ⟨(), h1, trivial, hw2.ext h2⟩
      · exact absurd h1 hf
    rintro _ _
    apply omv; rfl; rfl
    apply oex; rfl; rfl; rfl
    apply oex; rfl; rfl; rfl
    apply oas; rfl; rfl
    apply oas; rfl; rfl
    apply OL.nsr
    apply omv; rfl; rfl
    refine OL.callE (α := Unit) (fun _ => .tuple #[]) (fun _ => True) (fun _ => Cls [blk bF 24 [.int .i64 nm, .slice q bs.length cap]] [w]) rfl rfl (by exact Args.au) (fun w2 hw2 => (Any.slices_Sort_int_none Try.lays189 none 0 w2).mono fun e w3 h => ⟨(), h.1, trivial, by rw [h.2]; exact hw2⟩) ?_
    rintro _ _
    apply OL.nsr
    apply omv; rfl; rfl
    apply omv; rfl; rfl
    apply oas; rfl; rfl
    apply oas; rfl; rfl
    apply OL.nx
    apply W.ret
    ((with_reducible apply At.fin2); rfl; rfl; rfl; intro w' hw')
    exact .inl ⟨hf, rfl, by (exact hw'.fr)⟩
end Go.Proofs.Ytehelljmaiophaa.ss

/- The walks of the law's diamond and cfgWorks. Conditions: none. -/
namespace Go.Ss
open Go.Eng Go.RowKit
set_option linter.unusedVariables false
set_option linter.unusedSimpArgs false
def dia : Go.Ss.Fn := ⟨-1, [⟨[], [⟨1, 0, 1, []⟩], ⟨2, 1, 0, [], [⟨1, []⟩, ⟨2, []⟩]⟩⟩, ⟨[], [], ⟨1, 0, 0, [], [⟨3, []⟩]⟩⟩, ⟨[], [], ⟨1, 0, 0, [], [⟨3, []⟩]⟩⟩, ⟨[], [], ⟨0, 1, 0, [], []⟩⟩]⟩
theorem dia_ok : funcE dia = 0 := by
  have h0 : DefAt dia.blocks 1 0 1 := ⟨_, rfl, .inr ⟨0, _, rfl, rfl, rfl⟩⟩
  have hu : ∀ (k : Nat) b, dia.blocks[k]? = some b → UsesB dia.blocks k b := by
    intro k b hb
    have hk : k = 0 ∨ k = 1 ∨ k = 2 ∨ k = 3 := by
      have := (List.getElem?_eq_some_iff.1 hb).1
      simp [dia] at this
      omega
    rcases hk with rfl | rfl | rfl | rfl
    · obtain rfl := Option.some.inj hb
      refine ⟨fun n i hi v hv => ?_, fun v hv => ?_⟩
      · match n, hi with
        | 0, hi =>
          obtain rfl := Option.some.inj hi
          cases hv
        | n + 1, hi => simp at hi
      · obtain rfl : v = 1 := by simpa [operT] using hv
        exact ⟨0, 1, h0, .inl ⟨rfl, Nat.le_refl _⟩⟩
    · obtain rfl := Option.some.inj hb
      exact ⟨fun n i hi v hv => by simp at hi, fun v hv => by simp [operT] at hv⟩
    · obtain rfl := Option.some.inj hb
      exact ⟨fun n i hi v hv => by simp at hi, fun v hv => by simp [operT] at hv⟩
    · obtain rfl := Option.some.inj hb
      refine ⟨fun n i hi v hv => by simp at hi, fun v hv => ?_⟩
      obtain rfl : v = 1 := by simpa [operT] using hv
      exact ⟨0, 1, h0, .inr (.inl ⟨by decide, .inr (rc_none (.inl rfl) 3)⟩)⟩
  have hs : shapeE dia.blocks = 0 := by decide
  unfold funcE
  rw [if_neg (by decide), if_neg (by decide), if_neg (by decide), if_neg (fun h => h hs), if_pos hu]
theorem arrBlk {α μ : Type} {R : Rel α μ} {w : World} {b : Nat} {e : TypeId} {l : List (α × μ)} (hb : (blk b e (cat R.c l)).holds w) (he : ∀ p ∈ l, R.ok w (low w) p.1 p.2) : Arr R w (low w) l (some ⟨b, 0, none⟩) :=
  ⟨fun _ => ⟨_, rfl, blk_lt hb, fun j v hj => by rw [add_mid, blk_cell hb, Nat.zero_add]; exact hj⟩, he⟩
theorem blkInts {w : World} {b : Nat} {e : TypeId} {l : List Int} (hb : (blk b e (ints l)).holds w) : IntsO w (low w) l (some ⟨b, 0, none⟩) :=
  fun _ => ⟨_, rfl, blk_lt hb, fun j v hj => by rw [add_mid, blk_cell hb, Nat.zero_add]; exact hj⟩
theorem nilS (w : World) (O : Nat → Prop) : IntsO w O [] none := IntsO.nil
theorem dia_order : (visC (graphB dia.blocks) 0 (List.replicate dia.blocks.length false, [])).2.reverse = [0, 2, 1, 3] := by decide
theorem dia_preds : predsF (graphB dia.blocks) 0 3 = [1, 2] := by decide
end Go.Ss
namespace Go.Proofs.Ytehelljmaiophaa.ss
set_option maxRecDepth 100000
open Go.Eng Go.RowKit Go.Ss
set_option linter.unusedVariables false
set_option linter.unusedSimpArgs false
theorem diamond_calls (w : World) : Calls Try.prog 84 #[] w fun e w' => ∃ y : FnY, e = .returned (.agg (fnC dia y).toArray) ∧ Ext w w' ∧ FnOk w' (low w') dia y := by
  refine enter Try.func84 rfl Try.ntmps84 rfl (Cls.start w) ?_
  (simp only [argEnv, Nat.zero_add, Nat.reduceAdd])
  apply W.sr
  apply OL.alloc; rfl; rfl; exact CellsL.agg; (intro bk hbk; simp only [AllLe, and_true] at hbk)
  apply OL.nsr
  apply oop; rfl; apply Pev.build; rfl; exact CellsL.agg; rfl; exact Fill.au; rfl
  apply OL.buildSlice; rfl; rfl; rfl; exact Elems.au; rfl; rfl; (intro bk hbk; simp only [AllLe, and_true] at hbk)
  apply oop; rfl; apply Pev.build; rfl; exact CellsL.agg; rfl; exact Fill.au; rfl
  apply OL.alloc; rfl; rfl; exact CellsL.agg; (intro bk hbk; simp only [AllLe, and_true] at hbk)
  apply OL.storeB; rfl; rfl; exact CellsL.agg; rfl; rfl; rfl; exact Swap.au; exact Put.au
  apply OL.nsr
  apply oop; rfl; apply Pev.build; rfl; exact CellsL.agg; rfl; exact Fill.au; rfl
  apply OL.buildSlice; rfl; rfl; rfl; exact Elems.au; rfl; rfl; (intro bk hbk; simp only [AllLe, and_true] at hbk)
  apply oop; rfl; apply Pev.build; rfl; exact CellsL.agg; rfl; exact Fill.au; rfl
  apply oop; rfl; apply Pev.build; rfl; exact CellsL.agg; rfl; exact Fill.au; rfl
  apply OL.buildSlice; rfl; rfl; rfl; exact Elems.au; rfl; rfl; (intro bk hbk; simp only [AllLe, and_true] at hbk)
  apply oop; rfl; apply Pev.build; rfl; exact CellsL.agg; rfl; exact Fill.au; rfl
  apply oop; rfl; apply Pev.build; rfl; exact CellsL.agg; rfl; exact Fill.au; rfl
  apply oop; rfl; apply Pev.load_blkA; rfl; exact yes; exact .tail _ (.tail _ (.head _)); rfl; exact Take.au
  apply oop; rfl; apply Pev.build; rfl; exact CellsL.agg; rfl; exact Fill.au; rfl
  apply oop; rfl; apply Pev.load_blkA; rfl; exact yes; exact .tail _ (.tail _ (.head _)); rfl; exact Take.au
  apply oop; rfl; apply Pev.build; rfl; exact CellsL.agg; rfl; exact Fill.au; rfl
  apply oop; rfl; apply Pev.build; rfl; exact CellsL.agg; rfl; exact Fill.au; rfl
  apply oop; rfl; apply Pev.build; rfl; exact CellsL.agg; rfl; exact Fill.au; rfl
  apply OL.buildSlice; rfl; rfl; rfl; exact Elems.au; rfl; rfl; (intro bk hbk; simp only [AllLe, and_true] at hbk)
  apply oop; rfl; apply Pev.build; rfl; exact CellsL.agg; rfl; exact Fill.au; rfl
  apply OL.storeB; rfl; rfl; exact CellsL.agg; rfl; rfl; rfl; exact Swap.au; exact Put.au
  apply OL.nx
  apply W.ret
  rename_i b0 hb0 b3 hb3 b1 hb1 b6 hb6 b9 hb9
  revert bk
  intro b18 hb18
  refine At.finC (b := b0) (cs := [.int .i64 (-1), .slice (some ⟨b18, 0, none⟩) 4 4]) rfl rfl (by exact mau) rfl rfl (fun w' hw' => ?_)
  have h3 : ArrP edR w' (low w') [⟨3, []⟩] (some ⟨b3, 0, none⟩) := ⟨[(⟨3, []⟩, (none, 0))], rfl, arrBlk (e := 105) (hw'.item (by exact mau)) (fun p hp => by
    obtain rfl := List.mem_singleton.1 hp
    exact ⟨by simp [I64], by simp, nilS _ _, fun n hn => (by cases hn)⟩)⟩
  have h9 : ArrP edR w' (low w') [⟨1, []⟩, ⟨2, []⟩] (some ⟨b9, 0, none⟩) := ⟨[(⟨1, []⟩, (none, 0)), (⟨2, []⟩, (none, 0))], rfl, arrBlk (e := 105) (hw'.item (by exact mau)) (fun p hp => by
    rcases List.mem_cons.1 hp with rfl | hp
    · exact ⟨by simp [I64], by simp, nilS _ _, fun n hn => (by cases hn)⟩
    · obtain rfl := List.mem_singleton.1 hp
      exact ⟨by simp [I64], by simp, nilS _ _, fun n hn => (by cases hn)⟩)⟩
  have h6 : ArrP inR w' (low w') [⟨1, 0, 1, []⟩] (some ⟨b6, 0, none⟩) := ⟨[(⟨1, 0, 1, []⟩, (none, 0))], rfl, arrBlk (e := 85) (hw'.item (by exact mau)) (fun p hp => by
    obtain rfl := List.mem_singleton.1 hp
    exact ⟨by simp [I64], by simp [I64], by simp [I64], by simp, by simp, nilS _ _, fun n hn => (by cases hn)⟩)⟩
  have hj : BkOk w' (low w') ⟨[], [], ⟨1, 0, 0, [], [⟨3, []⟩]⟩⟩ ⟨(none, 0), (none, 0), ⟨(none, 0), (some ⟨b3, 0, none⟩, 1)⟩⟩ :=
    ⟨by simp, by simp, by simp, by simp, nilS _ _, fun n hn => (by cases hn), ArrP.nil, ⟨by simp [I64], by simp [I64], by simp [I64], by simp, by simp, by simp, by simp, nilS _ _, fun n hn => (by cases hn), h3⟩⟩
  refine ⟨⟨some ⟨b18, 0, none⟩, 4⟩, rfl, by (exact hw'.fr), by simp [dia, I64], by simp [dia], by simp [dia], ⟨[(⟨[], [⟨1, 0, 1, []⟩], ⟨2, 1, 0, [], [⟨1, []⟩, ⟨2, []⟩]⟩⟩, ⟨(none, 0), (some ⟨b6, 0, none⟩, 1), ⟨(none, 0), (some ⟨b9, 0, none⟩, 2)⟩⟩), (⟨[], [], ⟨1, 0, 0, [], [⟨3, []⟩]⟩⟩, ⟨(none, 0), (none, 0), ⟨(none, 0), (some ⟨b3, 0, none⟩, 1)⟩⟩), (⟨[], [], ⟨1, 0, 0, [], [⟨3, []⟩]⟩⟩, ⟨(none, 0), (none, 0), ⟨(none, 0), (some ⟨b3, 0, none⟩, 1)⟩⟩), (⟨[], [], ⟨0, 1, 0, [], []⟩⟩, ⟨(none, 0), (none, 0), ⟨(none, 0), (none, 0)⟩⟩)], rfl, arrBlk (e := 41) (hw'.item (by exact mau)) (fun p hp => ?_)⟩⟩
  rcases List.mem_cons.1 hp with rfl | hp
  · exact ⟨by simp, by simp, by simp, by simp, nilS _ _, fun n hn => (by cases hn), h6, ⟨by simp [I64], by simp [I64], by simp [I64], by simp, by simp, by simp, by simp, nilS _ _, fun n hn => (by cases hn), h9⟩⟩
  rcases List.mem_cons.1 hp with rfl | hp
  · exact hj
  rcases List.mem_cons.1 hp with rfl | hp
  · exact hj
  obtain rfl := List.mem_singleton.1 hp
  exact ⟨by simp, by simp, by simp, by simp, nilS _ _, fun n hn => (by cases hn), ArrP.nil, ⟨by simp [I64], by simp [I64], by simp [I64], by simp, by simp, by simp, by simp, nilS _ _, fun n hn => (by cases hn), ArrP.nil⟩⟩
theorem Order_ext (fn : Go.Ss.Fn) (y : FnY) (w : World) (hfn : FnOk w (low w) fn y) :
    Calls Try.prog 38 [.agg (fnC fn y).toArray].toArray w fun e w' => Ext w w' ∧ ((funcE fn ≠ 0 ∧ e = .returned (.tuple #[.slice none 0 0, .int .i64 (funcE fn)])) ∨ (funcE fn = 0 ∧ ∃ (q : Option Addr) (c : Nat), e = .returned (.tuple #[.slice q (visC (graphB fn.blocks) 0 (List.replicate fn.blocks.length false, [])).2.reverse.length c, .int .i64 0]) ∧ IntsO w' (low w') (visC (graphB fn.blocks) 0 (List.replicate fn.blocks.length false, [])).2.reverse q)) :=
  (Order_calls fn y w hfn).mono fun e w' h => by
    rcases h with ⟨h1, h2, h3⟩ | ⟨h1, O, q, c, h2, h3⟩
    · exact ⟨h3, .inl ⟨h1, h2⟩⟩
    · exact ⟨(h3.thin (.any (fun k hk => ⟨hk.1, trivial⟩) Thin.nil)).fr (by exact mau) (fun k hk => NotOwned.nil), .inr ⟨h1, q, c, h2, rowIntsL h3 (.head _)⟩⟩
theorem Reachable_ext (fn : Go.Ss.Fn) (y : FnY) (w : World) (hfn : FnOk w (low w) fn y) :
    Calls Try.prog 37 [.agg (fnC fn y).toArray].toArray w fun e w' => Ext w w' ∧ ((funcE fn ≠ 0 ∧ e = .returned (.tuple #[.slice none 0 0, .int .i64 (funcE fn)])) ∨ (funcE fn = 0 ∧ ∃ (q : Option Addr) (c : Nat), e = .returned (.tuple #[.slice q (isrt (visC (graphB fn.blocks) 0 (List.replicate fn.blocks.length false, [])).2.reverse).length c, .int .i64 0]) ∧ IntsO w' (low w') (isrt (visC (graphB fn.blocks) 0 (List.replicate fn.blocks.length false, [])).2.reverse) q)) :=
  (Reachable_calls fn y w hfn).mono fun e w' h => by
    rcases h with ⟨h1, h2, h3⟩ | ⟨h1, O, q, c, h2, h3⟩
    · exact ⟨h3, .inl ⟨h1, h2⟩⟩
    · exact ⟨(h3.thin (.any (fun k hk => ⟨hk.1, trivial⟩) Thin.nil)).fr (by exact mau) (fun k hk => NotOwned.nil), .inr ⟨h1, q, c, h2, rowIntsL h3 (.head _)⟩⟩
theorem empty_ok : funcE ⟨0, []⟩ = 3 := by
  unfold funcE
  exact if_pos rfl
theorem cfgWorks_calls (w : World) : Calls Try.prog 35 #[] w fun e w' => e = .returned (.bool true) ∧ Ext w w' := by
  refine enter Try.func35 rfl Try.ntmps35 rfl (Cls.start w) ?_
  (simp only [argEnv, Nat.zero_add, Nat.reduceAdd])
  apply W.sr
  apply oas; rfl; rfl
  apply OL.nsr
  refine OL.callE (α := FnY × World) (fun z => .agg (fnC dia z.1).toArray) (fun z => FnOk z.2 (low z.2) dia z.1) (fun z => Cls [] [z.2, w]) rfl rfl (by exact Args.au) (fun w2 hw2 => (diamond_calls w2).mono fun e w3 ⟨y, h1, h2, h3⟩ => ⟨(y, w3), h1, h3, (hw2.ext h2).note⟩) ?_
  rintro ⟨y1, w1⟩ hf1
  simp only at hf1 ⊢
  skip
  refine OL.callE (α := (Option Addr × Nat) × World) (fun z => .tuple #[.slice z.1.1 4 z.1.2, .int .i64 0]) (fun z => IntsO z.2 (low z.2) [0, 2, 1, 3] z.1.1) (fun z => Cls [] [z.2, w]) rfl rfl (by exact Args.au) (fun w2 hw2 => (Order_ext dia y1 w2 (fnR.mono (hw2.up (.head _)) (fnR.stab (hw2.same (.head _) (fun k hk => NotOwned.nil)) hf1))).mono fun e w3 ⟨h1, h2⟩ => ?_) ?_
  · rcases h2 with ⟨h2, _⟩ | ⟨_, q, c, h2, h3⟩
    · exact absurd dia_ok h2
    · rw [dia_order] at h2 h3
      exact ⟨((q, c), w3), h2, h3, ((hw2.ext h1).forget (by simp)).note⟩
  rintro ⟨⟨q2, c2⟩, w2⟩ hI2
  simp only at hI2 ⊢
  apply omv; rfl; rfl
  apply oex; rfl; rfl; rfl
  apply oex; rfl; rfl; rfl
  apply oas; rfl; rfl
  apply oas; rfl; rfl
  apply OL.nsr
  refine OL.callE (α := FnY × World) (fun z => .agg (fnC dia z.1).toArray) (fun z => FnOk z.2 (low z.2) dia z.1) (fun z => Cls [] [z.2, w2, w]) rfl rfl (by exact Args.au) (fun w3 hw3 => (diamond_calls w3).mono fun e w4 ⟨y, h1, h2, h3⟩ => ⟨(y, w4), h1, h3, (hw3.ext h2).note⟩) ?_
  rintro ⟨y3, w3⟩ hf3
  simp only at hf3 ⊢
  skip
  refine OL.callE (α := Nat × World) (fun z => .tuple #[.slice (some ⟨z.1, 0, none⟩) 4 4, .int .i64 0]) (fun z => z.1 < z.2.heap.size ∧ ∃ (q : Option Addr) (c : Nat), z.2.cell? ⟨z.1, 3, none⟩ = some (.slice q 2 c) ∧ IntsO z.2 (low z.2) [1, 2] q) (fun z => Cls [] [z.2, w2, w]) rfl rfl (by exact Args.au) (fun w4 hw4 => (CPreds_calls dia y3 w4 (fnR.mono (hw4.up (.head _)) (fnR.stab (hw4.same (.head _) (fun k hk => NotOwned.nil)) hf3))).mono fun e w5 ⟨h1, h2⟩ => ?_) ?_
  · rcases h2 with ⟨h2, _⟩ | ⟨_, bO, h2, h3, h4⟩
    · exact absurd dia_ok h2
    · obtain ⟨q, c, h5, h6⟩ := h4 3 (by decide)
      have h7 : predsF (graphB dia.blocks) 0 ((3 : Nat) : Int) = [1, 2] := dia_preds
      rw [h7] at h5 h6
      exact ⟨(bO, w5), h2, ⟨h3, q, c, h5, h6⟩, ((hw4.ext h1).forget (by simp)).note⟩
  rintro ⟨bO, w4⟩ ⟨hbO, q4, c4, hc4, hI4⟩
  simp only at hbO hc4 hI4 ⊢
  apply omv; rfl; rfl
  apply oex; rfl; rfl; rfl
  apply oex; rfl; rfl; rfl
  apply oas; rfl; rfl
  apply oas; rfl; rfl
  apply OL.nsr
  apply oop; rfl; apply Pev.build; rfl; exact CellsL.agg; rfl; exact Fill.au; rfl
  refine OL.callE (α := Unit) (fun z => .tuple #[.slice none 0 0, .int .i64 3]) (fun z => True) (fun z => Cls [] [w4, w2, w]) rfl rfl (by exact Args.au) (fun w5 hw5 => (Order_ext ⟨0, []⟩ ⟨none, 0⟩ w5 ⟨by simp [I64], by simp, by simp, ArrP.nil⟩).mono fun e w6 ⟨h1, h2⟩ => ?_) ?_
  · rcases h2 with ⟨_, h2⟩ | ⟨h2, _⟩
    · rw [empty_ok] at h2
      exact ⟨(), h2, trivial, hw5.ext h1⟩
    · rw [empty_ok] at h2
      cases h2
  rintro _ _
  apply omv; rfl; rfl
  apply oex; rfl; rfl; rfl
  apply oex; rfl; rfl; rfl
  apply oas; rfl; rfl
  apply oas; rfl; rfl
  apply OL.nsr
  apply omv; rfl; rfl
  apply obn; rfl; rfl; rfl; apply Bin.eql
  apply omv; rfl; rfl
  apply oy; rfl; rfl; rfl; apply Pev.move; rfl; exact yes
  ((apply OL.ungate); (exact Guard.au); (decide))
  apply OL.buildSlice; rfl; rfl; rfl; exact Elems.au; rfl; rfl; (intro bk hbk; simp only [AllLe, and_true] at hbk)
  revert bk
  intro b26 hb26
  have hb261 : w2.heap.size ≤ b26 := by first | exact hb26.2.1 | exact hb26.1 | omega
  have hb262 : w4.heap.size ≤ b26 := by first | exact hb26.1 | exact hb26 | omega
  (((first | (with_reducible apply OL.op) | (with_reducible apply QL.op)); (exact Guard.au); rfl; rfl); (exact Pev.call (v := .bool true) rfl (by exact Args.au) (fun _ w5 hw5 => (SameInts_calls q2 (some ⟨b26, 0, none⟩) c2 4 [0, 2, 1, 3] [0, 2, 1, 3] w5 (by simp) (by simp) (hI2.at hw5 (.tail _ (.head _)) (fun k hk => by exact NotOwned.au)) (blkInts (hw5.item (.head _)))).mono (fun e w6 h => ⟨by rw [h.1]; rfl, hw5.ext h.2⟩))))
  apply oop; rfl; apply Pev.pick_and; rfl; exact yes; rfl; exact yes
  apply omv; rfl; rfl
  apply oy; rfl; rfl; rfl; apply Pev.move; rfl; exact yes
  apply oy; rfl; rfl; rfl; apply Pev.bin; rfl; exact yes; rfl; exact yes; intro hcond; apply Bin.eql
  apply oop; rfl; apply Pev.pick_and; rfl; exact yes; rfl; exact yes
  apply omv; rfl; rfl
  apply oy; rfl; rfl; rfl; apply Pev.move; rfl; exact yes
  apply oy; rfl; rfl; rfl; apply Pev.len_slice; rfl; exact yes; rfl
  apply oy; rfl; rfl; rfl; apply Pev.bin; rfl; exact yes; rfl; exact yes; intro hcond; apply Bin.eql
  apply oop; rfl; apply Pev.pick_and; rfl; exact yes; rfl; exact yes
  apply omv; rfl; rfl
  apply oy; rfl; rfl; rfl; apply Pev.move; rfl; exact yes
  apply oy; rfl; rfl; rfl; apply Pev.idxB; rfl; exact yes; rfl; exact yes; rfl; intro hcond; omega; rfl
  apply oy; rfl; rfl; rfl; apply Pev.load_kept; rfl; exact yes; exact .head _; rfl; intro hcond; assumption; intro hcond; assumption; intro hcond; exact NotOwned.au
  ((apply OL.ungate); (exact Guard.au); (decide))
  apply OL.buildSlice; rfl; rfl; rfl; exact Elems.au; rfl; rfl; (intro bk hbk; simp only [AllLe, and_true] at hbk)
  revert bk
  intro b42 hb42
  have hb421 : w4.heap.size ≤ b42 := by first | exact hb42.1 | exact hb42 | omega
  (((first | (with_reducible apply OL.op) | (with_reducible apply QL.op)); (exact Guard.au); rfl; rfl); (exact Pev.call (v := .bool true) rfl (by exact Args.au) (fun _ w5 hw5 => (SameInts_calls q4 (some ⟨b42, 0, none⟩) c4 2 [1, 2] [1, 2] w5 (by simp) (by simp) (hI4.at hw5 (.head _) (fun k hk => by exact NotOwned.au)) (blkInts (hw5.item (.head _)))).mono (fun e w6 h => ⟨by rw [h.1]; rfl, hw5.ext h.2⟩))))
  apply oop; rfl; apply Pev.pick_and; rfl; exact yes; rfl; exact yes
  apply omv; rfl; rfl
  apply oy; rfl; rfl; rfl; apply Pev.move; rfl; exact yes
  apply oy; rfl; rfl; rfl; apply Pev.bin; rfl; exact yes; rfl; exact yes; intro hcond; apply Bin.eql
  apply oop; rfl; apply Pev.pick_and; rfl; exact yes; rfl; exact yes
  apply oas; rfl; rfl
  apply OL.nx
  apply W.ret
  ((with_reducible apply At.fin1); rfl; rfl; intro w' hw')
  exact ⟨rfl, (hw'.thin (by exact Thin.au)).fr (by exact mau) (fun k hk => NotOwned.nil)⟩
end Go.Proofs.Ytehelljmaiophaa.ss

/- Plain: what the depth-first search marks and gives out. No program in sight. No condition. -/
namespace Go.Ss
set_option linter.unusedVariables false
set_option linter.unusedSimpArgs false
theorem sorted_eq : ∀ {l m : List Int}, l.Pairwise (· < ·) → m.Pairwise (· < ·) → (∀ n, n ∈ l ↔ n ∈ m) → l = m
  | [], [], _, _, _ => rfl
  | [], b :: r, _, _, h => by have := (h b).2 (.head _); cases this
  | a :: r, [], _, _, h => by have := (h a).1 (.head _); cases this
  | a :: r, b :: s, h1, h2, h => by
    rw [List.pairwise_cons] at h1 h2
    have ha := (h a).1 (.head _)
    have hb := (h b).2 (.head _)
    have hab : a = b := by
      rcases List.mem_cons.1 ha with e | ha
      · exact e
      · rcases List.mem_cons.1 hb with e | hb
        · exact e.symm
        · have := h1.1 b hb
          have := h2.1 a ha
          omega
    subst hab
    rw [sorted_eq h1.2 h2.2 fun n => ?_]
    have hn := h n
    rw [List.mem_cons, List.mem_cons] at hn
    constructor
    · intro hr
      rcases hn.1 (.inr hr) with rfl | h3
      · have := h1.1 n hr; omega
      · exact h3
    · intro hr
      rcases hn.2 (.inr hr) with rfl | h3
      · have := h2.1 n hr; omega
      · exact h3
/-- from s to t: what is newly marked is given out once, is reached, and what follows it is marked -/
structure VT (G : List (List Int)) (s t : VS) : Prop where
  le : VLe s t
  nw : ∃ r, t.2 = s.2 ++ r ∧ r.Nodup ∧ ∀ v : Int, v ∈ r ↔ ∃ k : Nat, v = (k : Int) ∧ s.1[k]? = some false ∧ t.1[k]? = some true
  cl : ∀ a b : Nat, s.1[a]? = some false → t.1[a]? = some true → Edge G a b → b < G.length → t.1[b]? = some true
  sd : ∀ a : Nat, s.1[a]? = some false → t.1[a]? = some true → Rc G (-1) a
theorem VT.refl (G : List (List Int)) (s : VS) : VT G s s where
  le := .refl s
  nw := ⟨[], by simp, by simp, fun v => ⟨fun h => (by cases h), fun ⟨k, _, h1, h2⟩ => (by rw [h1] at h2; cases h2)⟩⟩
  cl := fun a b h1 h2 => by rw [h1] at h2; cases h2
  sd := fun a h1 h2 => by rw [h1] at h2; cases h2
theorem mark_cases {s : VS} {t : VS} (h : VLe s t) {k : Nat} {b : Bool} (hk : s.1[k]? = some b) : t.1[k]? = some false ∨ t.1[k]? = some true := by
  have h1 := (List.getElem?_eq_some_iff.1 hk).1
  have h2 : k < t.1.length := by rw [h.len]; exact h1
  rw [List.getElem?_eq_getElem h2]
  cases t.1[k] <;> simp
theorem VT.trans {G : List (List Int)} {s t u : VS} (h : VT G s t) (h' : VT G t u) : VT G s u where
  le := h.le.trans h'.le
  nw := by
    obtain ⟨r, h1, h2, h3⟩ := h.nw
    obtain ⟨r', h4, h5, h6⟩ := h'.nw
    refine ⟨r ++ r', by rw [h4, h1, List.append_assoc], ?_, fun v => ?_⟩
    · rw [List.nodup_append]
      refine ⟨h2, h5, fun a ha b hb => ?_⟩
      rintro rfl
      obtain ⟨k, rfl, _, h7⟩ := (h3 _).1 ha
      obtain ⟨k', e, h8, _⟩ := (h6 _).1 hb
      have : k = k' := by omega
      subst this
      rw [h7] at h8
      cases h8
    · rw [List.mem_append, h3, h6]
      constructor
      · rintro (⟨k, e, h7, h8⟩ | ⟨k, e, h7, h8⟩)
        · exact ⟨k, e, h7, h'.le.le k h8⟩
        · refine ⟨k, e, ?_, h8⟩
          have hl := (List.getElem?_eq_some_iff.1 h7).1
          rw [h.le.len] at hl
          have h9 := List.getElem?_eq_getElem hl
          cases hb : s.1[k] with
          | false => rw [h9, hb]
          | true =>
            rw [hb] at h9
            rw [h.le.le k h9] at h7
            cases h7
      · rintro ⟨k, e, h7, h8⟩
        rcases mark_cases h.le h7 with h9 | h9
        · exact .inr ⟨k, e, h9, h8⟩
        · exact .inl ⟨k, e, h7, h9⟩
  cl := fun a b h1 h2 he hb => by
    rcases mark_cases h.le h1 with h9 | h9
    · exact h'.cl a b h9 h2 he hb
    · exact h'.le.le b (h.cl a b h1 h9 he hb)
  sd := fun a h1 h2 => by
    rcases mark_cases h.le h1 with h9 | h9
    · exact h'.sd a h9 h2
    · exact h.sd a h1 h9
theorem nxt_edge {G : List (List Int)} {k : Nat} {e : Int} (h : e ∈ nxt G k) : ∃ l, G[k]? = some l ∧ e ∈ l := by
  unfold nxt at h
  rw [List.getD_eq_getElem?_getD] at h
  cases hk : G[k]? with
  | none => rw [hk] at h; cases h
  | some l => rw [hk] at h; exact ⟨l, rfl, h⟩
theorem vis_T {G : List (List Int)} (hG : ∀ l ∈ G, ∀ e ∈ l, 0 ≤ e ∧ e < (G.length : Int)) : ∀ (n k : Nat) (st : VS), unseen st.1 ≤ n → st.1.length = G.length → st.1[k]? = some false → Rc G (-1) k → VT G st (visC G k st) ∧ (visC G k st).1[k]? = some true
  | 0, k, st, hn, _, hk, _ => by have := unseen_pos hk; omega
  | n + 1, k, (S, out), hn, hl, hk, hr => by
    simp only at hn hl hk
    have hu := unseen_set hk
    have hkl := (List.getElem?_eq_some_iff.1 hk).1
    have key : ∀ (l : List Int) (s : VS), (∀ e ∈ l, e ∈ nxt G k) → unseen s.1 ≤ n → s.1.length = G.length → VT G s (foldC G s l) ∧ ∀ e ∈ l, (foldC G s l).1[e.toNat]? = some true := by
      intro l
      induction l with
      | nil => exact fun s _ _ _ => ⟨.refl G s, fun e he => (by cases he)⟩
      | cons e l ih =>
        intro s hin hs hsl
        obtain ⟨lk, hlk, hel⟩ := nxt_edge (hin e (.head _))
        obtain ⟨he0, he1⟩ := hG lk (List.mem_of_getElem? hlk) e hel
        have hstep : VT G s (stepC G s e) ∧ (stepC G s e).1[e.toNat]? = some true := by
          have hlt : e.toNat < s.1.length := by omega
          have h9 := List.getElem?_eq_getElem hlt
          cases hb : s.1[e.toNat] with
          | true =>
            rw [hb] at h9
            rw [stepC_seen h9]
            exact ⟨.refl G s, h9⟩
          | false =>
            rw [hb] at h9
            rw [stepC_new h9]
            exact vis_T hG n e.toNat s hs hsl h9 (.step hr ⟨lk, hlk, by rw [Int.toNat_of_nonneg he0]; exact hel⟩ (by omega) (by omega))
        rw [foldC_cons]
        obtain ⟨h1, h2⟩ := ih (stepC G s e) (fun x hx => hin x (.tail _ hx)) (Nat.le_trans hstep.1.le.un hs) (by rw [hstep.1.le.len, hsl])
        refine ⟨hstep.1.trans h1, fun x hx => ?_⟩
        rcases List.mem_cons.1 hx with rfl | hx
        · exact h1.le.le _ hstep.2
        · exact h2 x hx
    obtain ⟨h1, h2⟩ := key (nxt G k) (S.set k true, out) (fun e he => he) (by simp only; omega) (by simp only [List.length_set]; exact hl)
    have hle := visC_le G k (S, out)
    rw [visC_eq G hk] at hle ⊢
    obtain ⟨t, ht⟩ : ∃ t, foldC G (S.set k true, out) (nxt G k) = t := ⟨_, rfl⟩
    rw [ht] at h1 h2 hle ⊢
    have hkk : t.1[k]? = some true := h1.le.le k (by simp [hkl])
    have hset : ∀ j : Nat, j ≠ k → (S.set k true)[j]? = S[j]? := fun j hj => by rw [List.getElem?_set, if_neg (fun e => hj e.symm)]
    refine ⟨⟨hle, ?_, fun a b ha hb he hlb => ?_, fun a ha hb => ?_⟩, hkk⟩
    · obtain ⟨r, h3, h4, h5⟩ := h1.nw
      have hnk : ¬ (k : Int) ∈ r := fun hm => by
        obtain ⟨j, e, h6, _⟩ := (h5 _).1 hm
        have : k = j := by omega
        subst this
        simp [hkl] at h6
      refine ⟨r ++ [(k : Int)], by simp only at h3 ⊢; rw [h3, List.append_assoc], ?_, fun v => ?_⟩
      · rw [List.nodup_append]
        refine ⟨h4, by simp, fun a ha b hb => ?_⟩
        obtain rfl : b = (k : Int) := by simpa using hb
        rintro rfl
        exact hnk ha
      · rw [List.mem_append, h5]
        constructor
        · rintro (⟨j, e, h6, h7⟩ | h6)
          · refine ⟨j, e, ?_, h7⟩
            by_cases ej : j = k
            · subst ej; exact hk
            · rw [← hset j ej]; exact h6
          · exact ⟨k, by simpa using h6, hk, hkk⟩
        · rintro ⟨j, e, h6, h7⟩
          by_cases ej : j = k
          · right; subst ej; simp [e]
          · left; exact ⟨j, e, by simp only; rw [hset j ej]; exact h6, h7⟩
    · by_cases ea : a = k
      · subst ea
        obtain ⟨l, hl1, hl2⟩ := he
        have h3 := h2 (b : Int) (by unfold nxt; rw [List.getD_eq_getElem?_getD, hl1]; exact hl2)
        simpa using h3
      · exact h1.cl a b (by simp only; rw [hset a ea]; exact ha) hb he hlb
    · by_cases ea : a = k
      · subst ea; exact hr
      · exact h1.sd a (by simp only; rw [hset a ea]; exact ha) hb
/-- the whole search: each block that is reached is given out once -/
theorem vis_all {G : List (List Int)} (hG : ∀ l ∈ G, ∀ e ∈ l, 0 ≤ e ∧ e < (G.length : Int)) (h0 : 0 < G.length) : (visC G 0 (List.replicate G.length false, [])).2.Nodup ∧ ∀ v : Int, v ∈ (visC G 0 (List.replicate G.length false, [])).2 ↔ ∃ k : Nat, v = (k : Int) ∧ Rc G (-1) k := by
  have hS0 : (List.replicate G.length false)[0]? = some false := by simp [h0]
  obtain ⟨h1, h2⟩ := vis_T hG G.length 0 (List.replicate G.length false, []) (by have := unseen_le (List.replicate G.length false); simpa using this) (by simp) hS0 (.zero (by decide) h0)
  generalize visC G 0 (List.replicate G.length false, []) = t at *
  obtain ⟨r, h3, h4, h5⟩ := h1.nw
  simp only [List.nil_append] at h3
  rw [h3]
  have hf : ∀ k, k < G.length → (List.replicate G.length false)[k]? = some false := fun k hk => by simp [hk]
  have key : ∀ k, Rc G (-1) k → t.1[k]? = some true := by
    intro k hr
    induction hr with
    | zero _ _ => exact h2
    | step hr he hv hl ih => exact h1.cl _ _ (hf _ hr.lt) ih he hl
  refine ⟨h4, fun v => ?_⟩
  rw [h5]
  constructor
  · rintro ⟨k, e, h6, h7⟩
    exact ⟨k, e, h1.sd k h6 h7⟩
  · rintro ⟨k, e, hr⟩
    exact ⟨k, e, hf k hr.lt, key k hr⟩
end Go.Ss

/- A region that draws its order, whose pure operations come first, whatever its other ones wait for, and whose other ones then follow one behind another. General. No condition. -/
namespace Go.Eng
open Go.RowKit
set_option linter.unusedVariables false
set_option linter.unusedSimpArgs false

/-- an operation that makes nothing and writes nothing -/
def pureB (o : Oper) : Bool := match o.op with
  | .move _ => true
  | .assign _ => true
  | .pick .. => true
  | .build .. => true
  | .load .. => true
  | .nilCheck _ => true
  | .binOp .. => true
  | .unOp .. => true
  | .convert .. => true
  | .makeFunc .. => true
  | .slice .. => true
  | .fieldAddr .. => true
  | .field .. => true
  | .indexAddr .. => true
  | .index .. => true
  | .lookup .. => true
  | .extract .. => true
  | .call c => match c.callee with
    | .builtin .len => true
    | .builtin .min => true
    | .builtin .max => true
    | _ => false
  | _ => false
/-- an operation that looks at memory -/
def depB (o : Oper) : Bool := match o.op with
  | .load .. => true
  | .lookup .. => true
  | .index .. => true
  | .convert .. => true
  | _ => false

section
variable {P : Program} {ops : Array Oper} {C0 : World → Prop}
theorem value_only {M : Sem Value} {w : World} {n : Next} {w' : World} (h : (do pure (.value (← M)) : Sem Next).run P w = .ok n w') : ∃ u, n = .value u := by
  rw [Sem.run_bind] at h
  generalize M.run P w = r at h
  cases r with
  | ok v w1 => simp [Result.andThen] at h; exact ⟨v, h.1.symm⟩
  | halt x w1 => simp [Result.andThen] at h
theorem value_bind {α : Type} {M : Sem α} {f : α → Sem Next} (hf : ∀ x w n w', (f x).run P w = .ok n w' → ∃ u, n = .value u) (w : World) (n : Next) (w' : World) (h : (M >>= f).run P w = .ok n w') : ∃ u, n = .value u := by
  rw [Sem.run_bind] at h
  generalize M.run P w = r at h
  cases r with
  | ok v w1 => exact hf _ _ _ _ h
  | halt x w1 => simp [Result.andThen] at h
theorem pure_value {o : Oper} {ρ : Operand → Value} {w : World} {n : Next} {w' : World} (hp : pureB o = true) (h : (execOp ρ o).run P w = .ok n w') : ∃ u, n = .value u := by
  obtain ⟨dst, op, type, pos, after, guard⟩ := o
  cases op <;> simp only [pureB, Bool.false_eq_true] at hp <;> simp only [execOp] at h <;> try (exact value_only h)
  case move x => simp at h; exact ⟨_, h.1.symm⟩
  case assign x => simp at h; exact ⟨_, h.1.symm⟩
  case pick c a b =>
    rw [Sem.run_bind] at h
    generalize (asBool (ρ c)).run P w = r at h
    cases r with
    | ok v w1 => simp [Result.andThen] at h; exact ⟨_, h.1.symm⟩
    | halt x w1 => simp [Result.andThen] at h
  case nilCheck x =>
    split at h
    · simp [runtimePanic] at h
    · simp [runtimePanic] at h
    · simp [runtimePanic] at h
    · split at h
      · simp [runtimePanic] at h
      · refine value_bind (fun p => value_bind (fun q => ?_)) _ _ _ h
        intro w n w' h
        split at h
        · simp only [unsupported, Sem.run_bind] at h
          simp at h
        · simp at h; exact ⟨_, h.1.symm⟩
      · simp at h; exact ⟨_, h.1.symm⟩
    · simp at h; exact ⟨_, h.1.symm⟩
  case call c =>
    obtain ⟨callee, args, ats⟩ := c
    cases callee with
    | builtin b =>
      cases b <;> simp only [Bool.false_eq_true] at hp <;> simp only [resolve, invoke, builtin, Sem.run_bind, Sem.run_pure, Result.andThen_ok] at h
      case len =>
        generalize (Builtin.len_ ats type (Array.map ρ args)).run P w = r at h
        cases r with
        | ok v w1 => simp [Result.andThen] at h; exact ⟨v, h.1.symm⟩
        | halt x w1 => simp [Result.andThen] at h
      case min =>
        generalize (Builtin.min_ ats type (Array.map ρ args)).run P w = r at h
        cases r with
        | ok v w1 => simp [Result.andThen] at h; exact ⟨v, h.1.symm⟩
        | halt x w1 => simp [Result.andThen] at h
      case max =>
        generalize (Builtin.max_ ats type (Array.map ρ args)).run P w = r at h
        cases r with
        | ok v w1 => simp [Result.andThen] at h; exact ⟨v, h.1.symm⟩
        | halt x w1 => simp [Result.andThen] at h
    | value f => simp at hp
    | invoke r m => simp at hp
theorem still_of {D : World → Prop} {o : Oper} {ρ : Operand → Value} {w : World} {v : Value} (hp : pureB o = true) (h : Oper.quietUpon P D w v ((execOp ρ o).run P w)) : (execOp ρ o).run P w = .ok (.value v) w := by
  cases hr : (execOp ρ o).run P w with
  | ok n w' =>
    obtain ⟨u, rfl⟩ := pure_value hp hr
    rw [hr] at h
    simp only [Oper.quietUpon] at h
    rw [h.1, h.2]
  | halt x w' => rw [hr] at h; simp only [Oper.quietUpon] at h

/-! ### What one operation yields, where the class is asked of operations that look at memory alone -/
def YieldsZ (P : Program) (ops : Array Oper) (C0 : World → Prop) (o : Oper) (v : Value) (a : Act) : Prop :=
  (Region.wanted o (yielded ops a.tmps) = true ∧ ∀ w, (depB o = true → C0 w) → (execOp a.eval o).run P w = .ok (.value v) w) ∨
  (Region.wanted o (yielded ops a.tmps) = false ∧ v = undef)
theorem YieldsZ.of_same {o : Oper} {v : Value} {a a' : Act} (hy : YieldsZ P ops C0 o v a) (he : execOp a'.eval o = execOp a.eval o)
    (hw : Region.wanted o (yielded ops a'.tmps) = Region.wanted o (yielded ops a.tmps)) : YieldsZ P ops C0 o v a' := by
  unfold YieldsZ at *
  rw [he, hw]
  exact hy
variable {Q : Exit → Act → World → Prop}
theorem YieldsZ.wpOp {i : Nat} {o : Oper} {v : Value} {a : Act} (hi : ops[i]? = some o) (hy : YieldsZ P ops C0 o v a) {K : Act → World → Prop} {w : World} (hw0 : depB o = true → C0 w) (h : K (a.put o.dst v) w) : wpOp P ops Q i K a w := by
  unfold Go.wpOp
  simp only [hi]
  rcases hy with ⟨hw, hv⟩ | ⟨hw, rfl⟩
  · simp only [hw, if_true, Oper.wp, hv w hw0, Oper.upon]; exact .inl h
  · simp only [hw, Bool.false_eq_true, if_false]; exact h
theorem wpOp_putZ {j : Nat} {oi oj : Oper} {v : Value} (hj : ops[j]? = some oj) (hap : oi.apart ops oj = true)
    (hsi : ∀ cs b, oi.op ≠ .select cs b) (hsj : ∀ cs b, oj.op ≠ .select cs b) (hQ : ∀ c a w, ¬ Q (.panic c) a w) {K : Act → World → Prop} {a : Act} {w : World}
    (hy : YieldsZ P ops C0 oi v a) (h : wpOp P ops Q j K (a.put oi.dst v) w) :
    wpOp P ops Q j (fun a' w' => YieldsZ P ops C0 oi v a' ∧ K (a'.put oi.dst v) w') a w := by
  obtain ⟨h1, h2, h3⟩ := Oper.apart_spec hap
  have keep : ∀ (a : Act), YieldsZ P ops C0 oi v a → ∀ u, YieldsZ P ops C0 oi v (a.put oj.dst u) := fun a hy u =>
    hy.of_same (execOp_put oi hsi a oj.dst u h3) (wanted_put oi a oj.dst u h3)
  have keepD : ∀ d, YieldsZ P ops C0 oi v { a with defers := d :: a.defers } := fun d => hy.of_same rfl rfl
  unfold Go.wpOp at *
  simp only [hj] at *
  rw [wanted_put oj a oi.dst v h1] at h
  split
  · rename_i hw
    simp only [hw, if_true] at h
    rcases h with h | ⟨hasks, hlets⟩
    case inr => exact .inr ⟨by unfold Oper.asks at *; rw [execOp_put oj hsj a oi.dst v h1] at hasks; exact hasks, hlets⟩
    refine .inl ?_
    unfold Oper.wp at *
    rw [execOp_put oj hsj a oi.dst v h1] at h
    generalize (execOp a.eval oj).run P w = r at *
    cases r with
    | ok n w' =>
      cases n <;> simp only [Oper.upon] at h ⊢
      case value u => exact ⟨keep a hy u, by rw [← Act.put_comm a v u h2]; exact h⟩
      case skip => exact ⟨keep a hy _, by rw [← Act.put_comm a v undef h2]; exact h⟩
      case defer d =>
        refine ⟨keep _ (keepD d) _, ?_⟩
        rw [← Act.put_comm _ v undef h2, ← Act.put_defers]
        exact h
      case enter f args =>
        refine Calls.mono h fun e w'' he => ?_
        cases e with
        | returned u => exact ⟨keep a hy u, by rw [← Act.put_comm a v u h2]; exact he⟩
        | panicked c => exact absurd he (hQ _ _ _)
        | outgrown => exact he
      case row row args => exact Rows.mono h fun u w'' he => ⟨keep a hy u, by rw [← Act.put_comm a v u h2]; exact he⟩
    | halt x w' =>
      cases x <;> simp only [Oper.upon] at h ⊢
      case panic u => exact absurd h (hQ _ _ _)
  · rename_i hw
    simp only [hw] at h
    exact ⟨keep a hy _, by rw [← Act.put_comm a v undef h2]; exact h⟩

/-! ### Whatever order: what some operations keep is told -/
def wpZ (P : Program) (ops : Array Oper) (C0 : World → Prop) (need : Nat → Bool) (Q : Exit → Act → World → Prop) : Nat → Array Bool → Act → World → Prop
  | 0, li, a, w => Region.ready .any ops li = [] ∧ Q .normal a w
  | f + 1, li, a, w => (Region.ready .any ops li = [] → Q .normal a w) ∧ ∀ i ∈ Region.ready .any ops li, wpOp P ops Q i (fun a' w' => (need i = true → C0 w → C0 w') ∧ wpZ P ops C0 need Q f (li.setIfInBounds i true) a' w') a w
theorem wpAny_of_Z {need : Nat → Bool} : ∀ (f : Nat) (li : Array Bool) (a : Act) (w : World), wpZ P ops C0 need Q f li a w → wpAny P .any ops Q f li a w
  | 0, _, _, _, h => h
  | f + 1, li, a, w, h => ⟨h.1, fun i hi => wpOp_mono (fun a' w' h' => wpAny_of_Z f _ a' w' h'.2) (h.2 i hi)⟩

theorem wpZ_first {need : Nat → Bool} {i : Nat} {oi : Oper} {v : Value} (hi : ops[i]? = some oi) (hsel : ∀ (j : Nat) (o : Oper) cs b, ops[j]? = some o → o.op ≠ .select cs b) (hQ : ∀ c a w, ¬ Q (.panic c) a w) :
    ∀ (fuel : Nat) (li : Array Bool) (a : Act) (w : World), Dn ops li →
      (∀ j oj, ops[j]? = some oj → j ≠ i → li.getD j true = false → waitsB ops ops.size j i = false → oi.apart ops oj = true ∧ (depB oi = true → need j = true)) →
      i ∈ Region.ready .any ops li → YieldsZ P ops C0 oi v a → (depB oi = true → C0 w) →
      wpZ P ops C0 need Q fuel (li.setIfInBounds i true) (a.put oi.dst v) w → wpZ P ops C0 need Q (fuel + 1) li a w := by
  intro fuel
  induction fuel with
  | zero =>
    intro li a w hD _ hr hy hC H
    refine ⟨fun h => (by rw [h] at hr; cases hr), fun j hj => ?_⟩
    by_cases hji : j = i
    · subst hji; exact hy.wpOp hi hC ⟨fun _ h => h, H⟩
    · have := ready_mono hj hji
      rw [H.1] at this
      cases this
  | succ fuel ih =>
    intro li a w hD hfree hr hy hC H
    refine ⟨fun h => (by rw [h] at hr; cases hr), fun j hj => ?_⟩
    by_cases hji : j = i
    · subst hji; exact hy.wpOp hi hC ⟨fun _ h => h, H⟩
    · have h1 := H.2 j (ready_mono hj hji)
      obtain ⟨hjun, oj, hoj, hall⟩ := mem_ready.1 hj
      have hnw : waitsB ops ops.size j i = false := by
        cases hw : waitsB ops ops.size j i with
        | false => rfl
        | true =>
          have h2 := waits_done hD _ j oj hoj hall hw
          rw [getD_ft (mem_ready.1 hr).1] at h2
          cases h2
      obtain ⟨hap, hn⟩ := hfree j oj hoj hji hjun hnw
      have h2 := wpOp_putZ hoj hap (fun cs b => hsel i oi cs b hi) (fun cs b => hsel j oj cs b hoj) hQ hy h1
      have hfree' : ∀ k ok, ops[k]? = some ok → k ≠ i → (li.setIfInBounds j true).getD k true = false → waitsB ops ops.size k i = false → oi.apart ops ok = true ∧ (depB oi = true → need k = true) := fun k ok hk hki hun hno => by
        refine hfree k ok hk hki ?_ hno
        by_cases hjk : j = k
        · subst hjk; exact hjun
        · rw [getD_set_ne true hjk] at hun; exact hun
      refine wpOp_mono (fun a' w' h3 => ⟨h3.2.1, ih (li.setIfInBounds j true) a' w' (hD.set hj) hfree' (ready_mono hr (Ne.symm hji)) h3.1 (fun hd => h3.2.1 (hn hd) (hC hd)) ?_⟩) h2
      rw [Array.setIfInBounds_comm _ _ hji]
      exact h3.2.2

/-! ### The pure ones first -/
def freeZ (ops : Array Oper) (li : Array Bool) (i : Nat) : Bool :=
  match ops[i]? with
  | none => false
  | some oi => (List.range ops.size).all fun j => Nat.beq j i || (li.getD j true || (waitsB ops ops.size j i || (match ops[j]? with
      | some oj => oi.apart ops oj
      | none => true)))
/-- must operation k keep the class for one of the pure ones? -/
def needZ (ops : Array Oper) (xi : List Nat) (k : Nat) : Bool := xi.any fun i => (match ops[i]? with | some o => depB o | none => false) && !waitsB ops ops.size k i
theorem freeZ_spec {i : Nat} {oi : Oper} {li : Array Bool} {xi : List Nat} (hi : ops[i]? = some oi) (hx : i ∈ xi) (h : freeZ ops li i = true) (j : Nat) (oj : Oper) (hj : ops[j]? = some oj) (hne : j ≠ i) (hun : li.getD j true = false) (hno : waitsB ops ops.size j i = false) :
    oi.apart ops oj = true ∧ (depB oi = true → needZ ops xi j = true) := by
  simp only [freeZ, hi, List.all_eq_true, List.mem_range] at h
  have h1 := h j (Array.getElem?_eq_some_iff.1 hj).1
  have hb : Nat.beq j i = false := by
    rw [Bool.eq_false_iff]; intro hb; exact hne (Nat.eq_of_beq_eq_true hb)
  simp only [hj, hun, hno, hb, Bool.false_or] at h1
  refine ⟨h1, fun hd => List.any_eq_true.2 ⟨i, hx, ?_⟩⟩
  simp [hi, hd, hno]
def preZ (ops : Array Oper) : List Nat → Array Bool → Bool
  | [], _ => true
  | i :: r, li => (Region.ready .any ops li).contains i && (freeZ ops li i && preZ ops r (li.setIfInBounds i true))
def runZ : List Nat → Array Bool → Array Bool
  | [], li => li
  | i :: r, li => runZ r (li.setIfInBounds i true)
def seqZ (ops : Array Oper) : List Nat → Array Bool → Bool
  | [], li => (Region.ready .any ops li).isEmpty
  | k :: t, li => (Region.ready .any ops li == [k]) && seqZ ops t (li.setIfInBounds k true)
def wpZL (P : Program) (ops : Array Oper) (C0 : World → Prop) (K : Act → Prop) : List Oper → Act → Prop
  | [], a => K a
  | o :: r, a => if Region.wanted o (yielded ops a.tmps) then ∃ v, (∀ w, (depB o = true → C0 w) → (execOp a.eval o).run P w = .ok (.value v) w) ∧ wpZL P ops C0 K r (a.put o.dst v) else wpZL P ops C0 K r (a.put o.dst undef)
def wpT (P : Program) (ops : Array Oper) (C0 : World → Prop) (need : Nat → Bool) (Q : Exit → Act → World → Prop) : List (Nat × Oper) → Act → World → Prop
  | [], a, w => Q .normal a w
  | (k, _) :: r, a, w => wpOp P ops Q k (fun a' w' => (need k = true → C0 w') ∧ wpT P ops C0 need Q r a' w') a w
theorem wpZ_seq {need : Nat → Bool} : ∀ (y : List (Nat × Oper)) (li : Array Bool) (a : Act) (w : World), seqZ ops (y.map (·.1)) li = true → wpT P ops C0 need Q y a w → wpZ P ops C0 need Q y.length li a w
  | [], li, a, w, hB, h => ⟨by simpa [seqZ] using hB, h⟩
  | (k, o) :: r, li, a, w, hB, h => by
    simp only [List.map_cons, seqZ, Bool.and_eq_true, beq_iff_eq] at hB
    refine ⟨fun h' => (by rw [hB.1] at h'; cases h'), fun i hi => ?_⟩
    rw [hB.1, List.mem_singleton] at hi
    subst hi
    exact wpOp_mono (fun a' w' h3 => ⟨fun hn _ => h3.1 hn, wpZ_seq r _ a' w' hB.2 h3.2⟩) h
theorem wpZ_pre {xi0 : List Nat} (hs : Region.noSelect ops = true) (hQ : ∀ c a w, ¬ Q (.panic c) a w) {K : Act → Prop} {f : Nat} {w : World} (hw : C0 w) : ∀ (x : List (Nat × Oper)) (li : Array Bool) (a : Act), (∀ p ∈ x, p.1 ∈ xi0 ∧ ops[p.1]? = some p.2) → Dn ops li →
    preZ ops (x.map (·.1)) li = true → wpZL P ops C0 K (x.map (·.2)) a → (∀ a, K a → wpZ P ops C0 (needZ ops xi0) Q f (runZ (x.map (·.1)) li) a w) → wpZ P ops C0 (needZ ops xi0) Q (x.length + f) li a w
  | [], li, a, _, _, _, h, hK => by
    rw [List.length_nil, Nat.zero_add]; exact hK a h
  | (i, o) :: r, li, a, hx, hD, hB, h, hK => by
    obtain ⟨hmem, hi⟩ := hx _ (.head _)
    simp only [List.map_cons, preZ, Bool.and_eq_true] at hB
    obtain ⟨hr, hf, hB'⟩ := hB
    have hr' : i ∈ Region.ready .any ops li := by simpa using hr
    have key : ∃ v, YieldsZ P ops C0 o v a ∧ wpZL P ops C0 K (r.map (·.2)) (a.put o.dst v) := by
      simp only [List.map_cons, wpZL] at h
      split at h
      · rename_i hw
        obtain ⟨v, h1, h2⟩ := h
        exact ⟨v, .inl ⟨hw, h1⟩, h2⟩
      · rename_i hw
        exact ⟨undef, .inr ⟨by simpa using hw, rfl⟩, h⟩
    obtain ⟨v, hy, h2⟩ := key
    rw [List.length_cons, show r.length + 1 + f = (r.length + f) + 1 by omega]
    exact wpZ_first hi (Region.noSelect_spec hs) hQ _ li a w hD (freeZ_spec hi hmem hf) hr' hy (fun _ => hw)
      (wpZ_pre hs hQ hw r _ _ (fun p hp => hx p (.tail _ hp)) (hD.set hr') hB' h2 hK)

def NoPanic (Q : Exit → Act → World → Prop) : Exit → Act → World → Prop := fun e a w => match e with
  | .panic _ => False
  | e => Q e a w
theorem wpOp_np {i : Nat} {K : Act → World → Prop} {a : Act} {w : World} (h : wpOp P ops (NoPanic Q) i K a w) : wpOp P ops Q i K a w := by
  have hp : ∀ e a w, e ≠ .normal → NoPanic Q e a w → Q e a w := fun e a w _ h => by
    cases e <;> first | exact h | exact h.elim
  unfold wpOp at *
  split
  · rename_i ho; simp only [ho] at h; exact h
  · rename_i o ho
    simp only [ho] at h
    split
    · rename_i hw
      rw [if_pos hw] at h
      rcases h with h | ⟨h, a', w', hq⟩
      · refine .inl ?_
        unfold Oper.wp at h ⊢
        exact upon_Q hp h
      · exact .inr ⟨h, a', w', hq⟩
    · rename_i hw
      rw [if_neg hw] at h
      exact h
theorem wpAny_np : ∀ (f : Nat) (li : Array Bool) (a : Act) (w : World), wpAny P .any ops (NoPanic Q) f li a w → wpAny P .any ops Q f li a w
  | 0, _, _, _, h => h
  | f + 1, li, a, w, h => ⟨h.1, fun i hi => wpOp_np (wpOp_mono (fun a' w' h' => wpAny_np f _ a' w' h') (h.2 i hi))⟩
end

/-- the pure operations that wait for none of the others, and the others -/
inductive ZSplit : Nat → List Nat → List Oper → List (Nat × Oper) → List (Nat × Oper) → Prop where
  | nil {k : Nat} {tl : List Nat} : ZSplit k tl [] [] []
  | pure {k : Nat} {tl : List Nat} {o : Oper} {r : List Oper} {x y : List (Nat × Oper)} (hp : (pureB o && o.after.toList.all fun e => tl.all fun t => !Nat.beq t e.on) = true) (h : ZSplit (k + 1) tl r x y) : ZSplit k tl (o :: r) ((k, o) :: x) y
  | tail {k : Nat} {tl : List Nat} {o : Oper} {r : List Oper} {x y : List (Nat × Oper)} (h : ZSplit (k + 1) (k :: tl) r x y) : ZSplit k tl (o :: r) x ((k, o) :: y)
theorem ZSplit.spec {k : Nat} {tl : List Nat} {l : List Oper} {x y : List (Nat × Oper)} (h : ZSplit k tl l x y) : (∀ p ∈ x, k ≤ p.1 ∧ l[p.1 - k]? = some p.2 ∧ pureB p.2 = true) ∧ (∀ p ∈ y, k ≤ p.1 ∧ l[p.1 - k]? = some p.2) ∧ x.length + y.length = l.length := by
  induction h with
  | nil => simp
  | @pure k tl o r x y hp h ih =>
    simp only [Bool.and_eq_true] at hp
    refine ⟨fun p hpm => ?_, fun p hpm => ?_, by simp only [List.length_cons]; omega⟩
    · rcases List.mem_cons.1 hpm with rfl | hpm
      · exact ⟨Nat.le_refl _, by simp, hp.1⟩
      · obtain ⟨h1, h2, h3⟩ := ih.1 p hpm
        exact ⟨by omega, by rw [show p.1 - k = (p.1 - (k + 1)) + 1 by omega, List.getElem?_cons_succ]; exact h2, h3⟩
    · obtain ⟨h1, h2⟩ := ih.2.1 p hpm
      exact ⟨by omega, by rw [show p.1 - k = (p.1 - (k + 1)) + 1 by omega, List.getElem?_cons_succ]; exact h2⟩
  | @tail k tl o r x y h ih =>
    refine ⟨fun p hpm => ?_, fun p hpm => ?_, by simp only [List.length_cons]; omega⟩
    · obtain ⟨h1, h2, h3⟩ := ih.1 p hpm
      exact ⟨by omega, by rw [show p.1 - k = (p.1 - (k + 1)) + 1 by omega, List.getElem?_cons_succ]; exact h2, h3⟩
    · rcases List.mem_cons.1 hpm with rfl | hpm
      · exact ⟨Nat.le_refl _, by simp⟩
      · obtain ⟨h1, h2⟩ := ih.2.1 p hpm
        exact ⟨by omega, by rw [show p.1 - k = (p.1 - (k + 1)) + 1 by omega, List.getElem?_cons_succ]; exact h2⟩

structure ZL (P : Program) (n : Nat) (ops : Array Oper) (C0 : World → Prop) (K : Act → Prop) (rest : List (Nat × Oper)) (l : Env) : Prop where
  run : ∀ a, Sees n l a → wpZL P ops C0 K (rest.map (·.2)) a
structure TL (P : Program) (n : Nat) (ops : Array Oper) (C0 : World → Prop) (need : Nat → Bool) (Q : Exit → Act → World → Prop) (y : List (Nat × Oper)) (l : Env) (C : World → Prop) : Prop where
  run : ∀ a w, Sees n l a → C w → wpT P ops C0 need Q y a w
def TQ (P : Program) (ops : Array Oper) (C0 : World → Prop) (need : Nat → Bool) (k : Nat) (r : List (Nat × Oper)) (Q : Exit → Act → World → Prop) : Exit → Act → World → Prop := fun e a w => match e with
  | .normal => (need k = true → C0 w) ∧ wpT P ops C0 need Q r a w
  | e => Q e a w
def zB (ops : Array Oper) (xi yi : List Nat) : Bool := Region.noSelect ops && (preZ ops xi (Array.replicate ops.size false) && seqZ ops yi (runZ xi (Array.replicate ops.size false)))

section
variable {P : Program} {n : Nat} {l : Env} {C C0 : World → Prop} {ops : Array Oper} {Q : Exit → Act → World → Prop} {K : Act → Prop} {o : Oper} {k : Nat} {x y r : List (Nat × Oper)} {need : Nat → Bool}
theorem W.regz {id : Nat} {l0 : List Oper} (hs : ZSplit 0 [] l0 x y) (hm : P.follows .mixedOrders = true) (hB : zB l0.toArray (x.map (·.1)) (y.map (·.1)) = true) (hC : ∀ w, C w → C { w with drawn := w.drawn + 1 })
    (h : ZL P n l0.toArray C (fun a' => ∀ w', C w' → wpT P l0.toArray C (needZ l0.toArray (x.map (·.1))) (NoPanic Q) y a' w') x l) : W P n (.region id l0.toArray true) Q l C := ⟨fun a w hs' hc => by
  simp only [zB, Bool.and_eq_true] at hB
  obtain ⟨h1, h2, h3⟩ := hB
  obtain ⟨hx, hy, hlen⟩ := hs.spec
  refine wp_region_any hm (wpAny_np _ _ _ _ (wpAny_of_Z (C0 := C) (need := needZ l0.toArray (x.map (·.1))) _ _ _ _ ?_))
  have key := wpZ_pre (P := P) (ops := l0.toArray) (C0 := C) (Q := NoPanic Q) (xi0 := x.map (·.1)) (f := y.length) (w := { w with drawn := w.drawn + 1 }) h1 (fun _ _ _ h => h) (hC w hc) x (Array.replicate l0.toArray.size false) a
    (fun p hp => ⟨List.mem_map.2 ⟨p, hp, rfl⟩, by have := (hx p hp).2.1; simpa using this⟩) (fun j o _ hj => by rw [getD_rep] at hj; cases hj) h2 (h.run a hs')
    (fun a' hK => wpZ_seq y _ a' _ h3 (hK _ (hC w hc)))
  have e : x.length + y.length = l0.toArray.size := by simpa using hlen
  exact (congrArg (fun s => wpZ P l0.toArray C (needZ l0.toArray (x.map (·.1))) (NoPanic Q) s (Array.replicate l0.toArray.size false) a { w with drawn := w.drawn + 1 }) e).mp key⟩
theorem ZL.nil (h : TL P n ops C0 need Q y l C0) : ZL P n ops C0 (fun a' => ∀ w', C0 w' → wpT P ops C0 need Q y a' w') [] l := ⟨fun a hs w hc => h.run a w hs hc⟩
theorem ZL.step {d : Nat} {c : Bool} {v : Value} (hp : pureB o = true) (hg : Guard l ops o.guard c) (hd : o.dst = some d) (hn : Nat.ble (d + 1) n = true) (hv : Pev P n l (fun w => depB o = true → C0 w) o c v)
    (kk : ZL P n ops C0 K r ((d, c, v) :: l)) : ZL P n ops C0 K ((k, o) :: r) l := by
  have hn' := Nat.le_of_ble_eq_true hn
  refine ⟨fun a hs => ?_⟩
  show wpZL P ops C0 K (o :: r.map (·.2)) a
  unfold wpZL
  rw [hg.wanted hs]
  cases c with
  | true => exact ⟨v, fun w hw => still_of hp (hv.run rfl a w hs hw), by rw [hd]; exact kk.run _ (hs.put hn' true v)⟩
  | false => rw [hd]; exact kk.run _ (hs.put hn' false v)
theorem ZL.op {d : Nat} {c : Bool} {v : Value} (hb : (pureB o && !depB o) = true) (hg : Guard l ops o.guard c) (hd : o.dst = some d) (hn : Nat.ble (d + 1) n = true) (hv : Pev P n l (fun _ => True) o c v)
    (kk : ZL P n ops C0 K r ((d, c, v) :: l)) : ZL P n ops C0 K ((k, o) :: r) l := by
  simp only [Bool.and_eq_true, Bool.not_eq_true'] at hb
  exact ZL.step hb.1 hg hd hn ⟨fun hc a w hs hw => by
    have := hv.run hc a w hs trivial
    rw [still_of hb.1 this]; exact ⟨rfl, rfl⟩⟩ kk
theorem ZL.ld {d : Nat} {c : Bool} {v : Value} (hb : (pureB o && depB o) = true) (hg : Guard l ops o.guard c) (hd : o.dst = some d) (hn : Nat.ble (d + 1) n = true) (hv : Pev P n l C0 o c v)
    (kk : ZL P n ops C0 K r ((d, c, v) :: l)) : ZL P n ops C0 K ((k, o) :: r) l := by
  simp only [Bool.and_eq_true] at hb
  exact ZL.step hb.1 hg hd hn ⟨fun hc a w hs hw => by
    have := hv.run hc a w hs (hw hb.2)
    rw [still_of hb.1 this]; exact ⟨rfl, rfl⟩⟩ kk
theorem TL.nil (h : At n Q .normal l C) : TL P n ops C0 need Q [] l C := ⟨fun a w hs hc => h.run a w hs hc⟩
theorem TL.one (hi : ops[k]? = some o) (h : OL P n ops (TQ P ops C0 need k r Q) [o] l C) : TL P n ops C0 need Q ((k, o) :: r) l C := ⟨fun a w hs hc => by
  have hp : ∀ ex a w, ex ≠ .normal → TQ P ops C0 need k r Q ex a w → Q ex a w := fun ex a w hne h => by
    cases ex <;> first | exact h | exact absurd rfl hne
  have h := h.run a w hs hc
  show wpOp P ops Q k _ a w
  unfold wpOp
  simp only [hi]
  unfold wpList at h
  split
  · rename_i hw
    rw [if_pos hw] at h
    rcases h with h | ⟨h, a', w', hq⟩
    · refine .inl ?_
      unfold Oper.wp at h ⊢
      exact upon_Q hp h
    · exact .inr ⟨h, a', w', hp _ _ _ (by simp) hq⟩
  · rename_i hw
    rw [if_neg hw] at h
    exact h⟩
theorem At.tn (hk : need k = false) (h : TL P n ops C0 need Q r l C) : At n (TQ P ops C0 need k r Q) .normal l C := ⟨fun a w hs hc => ⟨fun h' => (by rw [hk] at h'; cases h'), h.run a w hs hc⟩⟩
theorem At.tk (hk : ∀ w, C w → C0 w) (h : TL P n ops C0 need Q r l C) : At n (TQ P ops C0 need k r Q) .normal l C := ⟨fun a w hs hc => ⟨fun _ => hk w hc, h.run a w hs hc⟩⟩
theorem At.np (h : At n Q .normal l C) : At n (NoPanic Q) .normal l C := ⟨h.run⟩
end

/-! a guard that is known, among the quiet operations -/
section
variable {P : Program} {n : Nat} {l : Env} {C : World → Prop} {c : Bool} {d : Option Nat} {op : Op} {ty : TypeId} {pos : String} {af : Array Edge} {g : Option (Nat × Bool)} {ops : Array Oper} {K : Act → Prop} {rest : List Oper}
theorem QL.gateOff {dd : Nat} (hg : Guard l ops g c) (hc : c = false) (hn : Nat.ble (dd + 1) n = true) (h : QL P n ops C K rest ((dd, false, undef) :: l)) : QL P n ops C K (⟨some dd, op, ty, pos, af, g⟩ :: rest) l := by
  have hn' := Nat.le_of_ble_eq_true hn
  refine ⟨fun a hs => ?_⟩
  unfold wpQuiet
  rw [hg.wanted hs]
  subst hc
  exact h.run _ (hs.put hn' false undef)
end
end Go.Eng

/- The walk of the law CfgGraph. Conditions: none. -/
namespace Go.Eng
open Go.RowKit
section
variable {P : Program} {n : Nat} {l : Env} {C : World → Prop} {ops : Array Oper} {rest : List Oper} {Q : Exit → Act → World → Prop}
/-- the world as it stands is kept -/
theorem OL.freeze {C' : World → World → Prop} (hc : ∀ w0, C w0 → C' w0 w0) (h : ∀ w0, C w0 → OL P n ops Q rest l (C' w0)) : OL P n ops Q rest l C := ⟨fun a w s c => (h w c).run a w s (hc w c)⟩
theorem W.freeze {code : Code} {C' : World → World → Prop} (hc : ∀ w0, C w0 → C' w0 w0) (h : ∀ w0, C w0 → W P n code Q l (C' w0)) : W P n code Q l C := ⟨fun a w s c => (h w c).run a w s (hc w c)⟩
end
end Go.Eng
namespace Go.Ss
open Go.Eng Go.RowKit
set_option linter.unusedVariables false
set_option linter.unusedSimpArgs false
/-- the marked places below k -/
def allK (B : List Bool) (k : Nat) : List Int := ((List.range k).filter fun j => B.getD j false).map fun j : Nat => (j : Int)
theorem allK_succ (B : List Bool) (k : Nat) : allK B (k + 1) = allK B k ++ if B.getD k false then [(k : Int)] else [] := by
  unfold allK
  rw [List.range_succ, List.filter_append, List.map_append]
  congr 1
  cases h : B.getD k false with
  | false => rw [List.filter_cons_of_neg (by simp only [h]; decide)]; rfl
  | true => rw [List.filter_cons_of_pos (by simpa using h)]; rfl
theorem allK_len (B : List Bool) (k : Nat) : (allK B k).length ≤ k := by
  unfold allK
  rw [List.length_map]
  have := List.length_filter_le (fun j => B.getD j false) (List.range k)
  simpa using this
theorem reach_all {G : List (List Int)} (hG : ∀ l ∈ G, ∀ e ∈ l, 0 ≤ e ∧ e < (G.length : Int)) (h0 : 0 < G.length) {B : List Bool} (hB : ∀ k : Nat, B[k]? = some true ↔ Rc G (-1) k) : isrt (visC G 0 (List.replicate G.length false, [])).2.reverse = allK B G.length := by
  obtain ⟨h1, h2⟩ := vis_all hG h0
  refine sorted_eq ?_ ?_ fun n => ?_
  · have hs := isrt_sorted (visC G 0 (List.replicate G.length false, [])).2.reverse
    have hn : (isrt (visC G 0 (List.replicate G.length false, [])).2.reverse).Nodup := (isrt_perm _).symm.nodup ((List.reverse_perm _).symm.nodup h1)
    exact (hs.and hn).imp fun h => by omega
  · unfold allK
    rw [List.pairwise_map]
    have := (List.pairwise_lt_range (n := G.length)).filter (fun j => B.getD j false)
    exact this.imp fun h => by omega
  · rw [isrt_mem, List.mem_reverse, h2]
    unfold allK
    simp only [List.mem_map, List.mem_filter, List.mem_range]
    constructor
    · rintro ⟨k, rfl, hr⟩
      refine ⟨k, ⟨hr.lt, ?_⟩, rfl⟩
      rw [List.getD_eq_getElem?_getD, (hB k).2 hr]
      try rfl
    · rintro ⟨k, ⟨hk, hb⟩, rfl⟩
      refine ⟨k, rfl, (hB k).1 ?_⟩
      rw [List.getD_eq_getElem?_getD] at hb
      cases hx : B[k]? with
      | none => rw [hx] at hb; cases hb
      | some b => rw [hx] at hb; rw [show b = true from hb]
/-- the first k and the last k turned round -/
def swapK (l : List Int) (k : Nat) (m : List Int) : Prop := m.length = l.length ∧ ∀ t, t < l.length → m[t]? = if t < k ∨ l.length - k ≤ t then l[l.length - 1 - t]? else l[t]?
theorem swapK_zero (l : List Int) : swapK l 0 l := ⟨rfl, fun t ht => by rw [if_neg (by omega)]⟩
theorem swapK_step {l m : List Int} {k : Nat} (h : swapK l k m) (hk : k < l.length / 2) {a b : Int} (ha : m[k]? = some a) (hb : m[l.length - 1 - k]? = some b) : swapK l (k + 1) ((m.set k b).set (l.length - 1 - k) a) := by
  refine ⟨by simp [h.1], fun t ht => ?_⟩
  have hka : l[k]? = some a := by rw [← ha, h.2 k (by omega), if_neg (by omega)]
  have hkb : l[l.length - 1 - k]? = some b := by rw [← hb, h.2 _ (by omega), if_neg (by omega)]
  rw [List.getElem?_set, List.getElem?_set]
  by_cases e1 : l.length - 1 - k = t
  · rw [if_pos e1, if_pos (by simp [h.1]; omega), if_pos (by omega), show l.length - 1 - t = k by omega, hka]
  · rw [if_neg e1]
    by_cases e2 : k = t
    · rw [if_pos e2, if_pos (by rw [h.1]; omega), if_pos (by omega), ← e2, hkb]
    · rw [if_neg e2, h.2 t ht]
      by_cases e3 : t < k ∨ l.length - k ≤ t
      · rw [if_pos e3, if_pos (by omega)]
      · rw [if_neg e3, if_neg (by omega)]
theorem swapK_done {l m : List Int} (h : swapK l (l.length / 2) m) : m = l.reverse := by
  apply List.ext_getElem?
  intro t
  by_cases ht : t < l.length
  · rw [h.2 t ht, List.getElem?_reverse ht]
    split
    · rfl
    · rw [show l.length - 1 - t = t by omega]
  · rw [List.getElem?_eq_none (by rw [h.1]; omega), List.getElem?_eq_none (by simp; omega)]
end Go.Ss
namespace Go.Proofs.Ytehelljmaiophaa.ss
set_option maxRecDepth 100000
open Go.Eng Go.RowKit Go.Ss
set_option linter.unusedVariables false
set_option linter.unusedSimpArgs false
structure XZ5 (m : Nat) where
  q : Option Addr
  c : Nat
  pB : Nat
  hpB : m ≤ pB
  pT : Nat
  old : Nat → Value
theorem pileI {H : List Eng.Item} {S : List World} {w : World} {B c : Nat} {O : Nat → Prop} {q : Option Addr} {l : List Int} (h : Cls H S w) (hp : pile B O [⟨q, c, ints l⟩] ∈ H) : IntsO w (low w) l q := fun hl => by
  obtain ⟨a, h1, h2, h3⟩ := h.item hp _ (.head _) (by simp only [ints_length]; exact hl)
  exact ⟨a, h1, h.lt _ hp _ h2, h3⟩
theorem rowIntsD {H : List Eng.Item} {S : List World} {w' : World} {B m cap : Nat} {O : Nat → Prop} {q : Option Addr} {e : TypeId} {l : List Int} (h : Cls (row B O q m cap e 1 (ints l) :: H) S w') : IntsO w' (low w') l q := rowIntsL h (.head _)
theorem cfgGraph_law (fn : Go.Ss.Fn) (y : FnY) (w : World) (hfn : FnOk w (low w) fn y) :
    Calls Try.prog 7 [.agg (fnC fn y).toArray].toArray w fun e w' => e = .returned (.bool true) ∧ Ext w w' := by
  have hfn0 := hfn
  obtain ⟨es, hes, he⟩ := hfn.b
  obtain ⟨nm, bs⟩ := fn
  obtain ⟨q, cap⟩ := y
  have hbl := hfn.bl
  simp only at hes he hbl
  have hbl2 : bs.length = es.length := by rw [← hes, List.length_map]
  have hF : ∀ (H : List Eng.Item) (S : List World) (w2 : World), Cls H S w2 → w ∈ S → (∀ k, k < w.heap.size → NotOwned H k) → FnOk w2 (low w2) ⟨nm, bs⟩ ⟨q, cap⟩ := fun H S w2 hw2 hs hno => fnR.mono (hw2.up hs) (fnR.stab (hw2.same hs hno) hfn0)
  have hcC : (fnC ⟨nm, bs⟩ ⟨q, cap⟩) = [.int .i64 nm, .slice q es.length cap] := by simp only [fnC]; rw [hbl2]
  rw [hcC]
  refine enter Try.func7 rfl Try.ntmps7 rfl (Cls.start w) ?_
  (simp only [argEnv, Nat.zero_add, Nat.reduceAdd])
  apply W.sr
  apply OL.box; rfl; rfl; exact CellsL.agg; (intro bk hbk; simp only [AllLe, and_true] at hbk)
  apply oas; rfl; rfl
  apply OL.nx
  apply W.seq
  apply W.sr
  revert bk
  intro bF hbF
  have hbF1 : w.heap.size ≤ bF := by first | exact hbF | exact hbF.1
  refine OL.freeze (C' := fun w0 => Cls [] [w0, w]) (fun w0 hc0 => (hc0.thin (.any (fun k hk => by rw [show k = bF from hk]; exact ⟨hbF1, trivial⟩) Thin.nil)).note) (fun w0 hc0 => ?_)
  have hbF0 : bF < w0.heap.size := blk_lt (hc0.item (.head _))
  have hcF : CellsAt w0 ⟨bF, 0, none⟩ [.int .i64 nm, .slice q es.length cap] := fun j v hj => by
    rw [add_mid, blk_cell (hc0.item (.head _)), Nat.zero_add]
    exact hj
  have hcF1 : w0.cell? ⟨bF, 0 + 1, none⟩ = some (.slice q es.length cap) := hcF 1 _ rfl
  (((first | (with_reducible apply OL.op) | (with_reducible apply QL.op)); (exact Guard.au); rfl; rfl); (exact Pev.call (v := .bool true) rfl (by exact Args.au) (fun _ w2 hw2 => (cfgWorks_calls w2).mono (fun e w3 h => ⟨h.1, hw2.ext h.2⟩))))
  apply oop; rfl; apply Pev.not; rfl; exact yes
  apply OL.nx
  refine W.cond rfl (fun h => by cases h) (fun _ => ?_)
  apply W.sk
  apply W.seq
  apply W.sr
  apply oop; rfl; apply Pev.load_keptA; rfl; exact yes; exact .head _; rfl; intro hcond; assumption; rfl; intro hcond; assumption; intro hcond; exact NotOwned.au
  (((first | (with_reducible apply OL.op) | (with_reducible apply QL.op)); (exact Guard.au); rfl; rfl); (exact Pev.call (v := .bool (decide (es.length ≤ 12) && decide (freshF bs ≤ 200))) rfl (by exact Args.au) (fun _ w2 hw2 => (few_calls es q cap nm w2 (he.at hw2 (by exact mau) (fun k hk => NotOwned.nil)) (by omega)).mono (fun e w3 h => ⟨by rw [h.1, hes], hw2.ext h.2⟩))))
  apply oop; rfl; apply Pev.not; rfl; exact yes
  apply OL.nx
  refine W.cond rfl (fun h1 => ?_) (fun h1 => ?_)
  · apply W.sr
    apply oas; rfl; rfl
    apply OL.nx
    refine W.rt ?_
    ((with_reducible apply At.fin1); rfl; rfl; intro w' hw')
    exact ⟨rfl, by (exact hw'.fr)⟩
  have h12 : es.length ≤ 12 := by simp at h1; omega
  obtain ⟨er, her⟩ : ∃ er, funcE ⟨nm, bs⟩ = er := ⟨_, rfl⟩
  have hP := fun w2 (H : List Eng.Item) (S : List World) hw2 hs hno => CPreds_calls ⟨nm, bs⟩ ⟨q, cap⟩ w2 (hF H S w2 hw2 hs hno)
  have hRb := fun w2 (H : List Eng.Item) (S : List World) hw2 hs hno => Reachable_ext ⟨nm, bs⟩ ⟨q, cap⟩ w2 (hF H S w2 hw2 hs hno)
  have hOr := fun w2 (H : List Eng.Item) (S : List World) hw2 hs hno => Order_ext ⟨nm, bs⟩ ⟨q, cap⟩ w2 (hF H S w2 hw2 hs hno)
  have hFe := fun w2 (H : List Eng.Item) (S : List World) hw2 hs hno => FuncErr_calls ⟨nm, bs⟩ ⟨q, cap⟩ w2 (hF H S w2 hw2 hs hno)
  rw [hcC] at hP hRb hOr hFe
  simp only [her, hbl2] at hP hRb hOr hFe
  by_cases hne : er ≠ 0
  · apply W.sk
    apply W.sr
    apply oop; rfl; apply Pev.load_keptA; rfl; exact yes; exact .head _; rfl; intro hcond; assumption; rfl; intro hcond; assumption; intro hcond; exact NotOwned.au
    (((first | (with_reducible apply OL.op) | (with_reducible apply QL.op)); (exact Guard.au); rfl; rfl); (exact Pev.call (v := .tuple #[.slice none 0 0, .int .i64 er]) rfl (by exact Args.au) (fun _ w2 hw2 => (hP w2 _ _ hw2 (by exact mau) (fun k hk => NotOwned.nil)).mono (fun e w3 h => ⟨by rcases h.2 with h2 | h2; exact h2.2; exact absurd h2.1 hne, hw2.ext h.1⟩))))
    apply omv; rfl; rfl
    apply oex; rfl; rfl; rfl
    apply oex; rfl; rfl; rfl
    apply oas; rfl; rfl
    apply oas; rfl; rfl
    apply OL.nsr
    apply oop; rfl; apply Pev.load_keptA; rfl; exact yes; exact .head _; rfl; intro hcond; assumption; rfl; intro hcond; assumption; intro hcond; exact NotOwned.au
    (((first | (with_reducible apply OL.op) | (with_reducible apply QL.op)); (exact Guard.au); rfl; rfl); (exact Pev.call (v := .tuple #[.slice none 0 0, .int .i64 er]) rfl (by exact Args.au) (fun _ w2 hw2 => (hRb w2 _ _ hw2 (by exact mau) (fun k hk => NotOwned.nil)).mono (fun e w3 h => ⟨by rcases h.2 with h2 | h2; exact h2.2; exact absurd h2.1 hne, hw2.ext h.1⟩))))
    apply omv; rfl; rfl
    apply oex; rfl; rfl; rfl
    apply oex; rfl; rfl; rfl
    apply oas; rfl; rfl
    apply oas; rfl; rfl
    apply OL.nsr
    apply oop; rfl; apply Pev.load_keptA; rfl; exact yes; exact .head _; rfl; intro hcond; assumption; rfl; intro hcond; assumption; intro hcond; exact NotOwned.au
    (((first | (with_reducible apply OL.op) | (with_reducible apply QL.op)); (exact Guard.au); rfl; rfl); (exact Pev.call (v := .tuple #[.slice none 0 0, .int .i64 er]) rfl (by exact Args.au) (fun _ w2 hw2 => (hOr w2 _ _ hw2 (by exact mau) (fun k hk => NotOwned.nil)).mono (fun e w3 h => ⟨by rcases h.2 with h2 | h2; exact h2.2; exact absurd h2.1 hne, hw2.ext h.1⟩))))
    apply omv; rfl; rfl
    apply oex; rfl; rfl; rfl
    apply oex; rfl; rfl; rfl
    apply oas; rfl; rfl
    apply oas; rfl; rfl
    apply OL.nx
    apply W.seq
    apply W.sr
    apply oop; rfl; apply Pev.load_keptA; rfl; exact yes; exact .head _; rfl; intro hcond; assumption; rfl; intro hcond; assumption; intro hcond; exact NotOwned.au
    (((first | (with_reducible apply OL.op) | (with_reducible apply QL.op)); (exact Guard.au); rfl; rfl); (exact Pev.call (v := .int .i64 er) rfl (by exact Args.au) (fun _ w2 hw2 => (hFe w2 _ _ hw2 (by exact mau) (fun k hk => NotOwned.nil)).mono (fun e w3 h => ⟨h.1, hw2.ext h.2⟩))))
    apply oas; rfl; rfl
    apply OL.nsr
    apply omv; rfl; rfl
    apply obn; rfl; rfl; rfl; apply Bin.neq
    apply OL.nx
    refine W.cond rfl (fun _ => ?_) (fun h => by simp at h; exact absurd h hne)
    apply W.sr
    apply omv; rfl; rfl
    apply omv; rfl; rfl
    apply obn; rfl; rfl; rfl; apply Bin.eql
    apply omv; rfl; rfl
    apply oy; rfl; rfl; rfl; apply Pev.move; rfl; exact yes
    apply oy; rfl; rfl; rfl; apply Pev.move; rfl; exact yes
    apply oy; rfl; rfl; rfl; apply Pev.bin; rfl; exact fun h => h; rfl; exact fun h => h; intro hcond; apply Bin.eql
    apply oop; rfl; apply Pev.pick_and; rfl; exact yes; rfl; exact fun h => h
    apply omv; rfl; rfl
    apply oy; rfl; rfl; rfl; apply Pev.move; rfl; exact yes
    apply oy; rfl; rfl; rfl; apply Pev.move; rfl; exact yes
    apply oy; rfl; rfl; rfl; apply Pev.bin; rfl; exact fun h => h; rfl; exact fun h => h; intro hcond; apply Bin.eql
    apply oop; rfl; apply Pev.pick_and; rfl; exact yes; rfl; exact fun h => h
    apply omv; rfl; rfl
    apply oy; rfl; rfl; rfl; apply Pev.move; rfl; exact yes
    apply oy; rfl; rfl; rfl; apply Pev.len_slice; rfl; exact fun h => h; rfl
    apply oy; rfl; rfl; rfl; apply Pev.move; rfl; exact yes
    apply oy; rfl; rfl; rfl; apply Pev.len_slice; rfl; exact fun h => h; rfl
    apply oy; rfl; rfl; rfl; apply Pev.bin; rfl; exact fun h => h; rfl; exact fun h => h; intro hcond; apply Bin.add_in; omega
    apply oy; rfl; rfl; rfl; apply Pev.move; rfl; exact yes
    apply oy; rfl; rfl; rfl; apply Pev.len_slice; rfl; exact fun h => h; rfl
    apply oy; rfl; rfl; rfl; apply Pev.bin; rfl; exact fun h => h; rfl; exact fun h => h; intro hcond; apply Bin.add_in; omega
    apply oy; rfl; rfl; rfl; apply Pev.bin; rfl; exact fun h => h; rfl; exact yes; intro hcond; apply Bin.eql
    apply oop; rfl; apply Pev.pick_and; rfl; exact yes; rfl; exact fun h => h
    apply oas; rfl; rfl
    apply OL.nx
    refine W.rt ?_
    ((with_reducible apply At.fin1); rfl; rfl; intro w' hw')
    exact ⟨by simp, by (exact hw'.fr)⟩
  have he0 : er = 0 := Classical.not_not.1 hne
  subst he0
  obtain ⟨h0, h128, hs0⟩ := func_zero her
  simp only at h0 h128 hs0
  obtain ⟨G, hG⟩ : ∃ G, graphB bs = G := ⟨_, rfl⟩
  have hGl : G.length = es.length := by rw [← hG]; simp [graphB, hbl2]
  have hGE : ∀ l ∈ G, ∀ x ∈ l, 0 ≤ x ∧ x < (G.length : Int) := fun l hl x hx => by
    rw [← hG] at hl
    obtain ⟨b, hb, rfl⟩ := List.mem_map.1 hl
    obtain ⟨e, he, rfl⟩ := List.mem_map.1 hx
    have := shape_edges hs0 b hb e he
    omega
  have hM : ∀ p ∈ es, p.1.term.to_.length ≤ 257 := fun p hp => to_len hs0 (by rw [← hes]; exact List.mem_map_of_mem hp)
  have hGM : ∀ l ∈ G, l.length ≤ 257 := fun l hl => by
    rw [← hG] at hl
    obtain ⟨b, hb, rfl⟩ := List.mem_map.1 hl
    rw [List.length_map]
    exact to_len hs0 hb
  obtain ⟨O, hO⟩ : ∃ O, visC G 0 (List.replicate es.length false, []) = O := ⟨_, rfl⟩
  rw [hG] at hP hRb hOr
  rw [hO] at hRb hOr
  apply W.sk
  apply W.sr
  apply oop; rfl; apply Pev.load_keptA; rfl; exact yes; exact .head _; rfl; intro hcond; assumption; rfl; intro hcond; assumption; intro hcond; exact NotOwned.au
  refine OL.callE (α := Nat × World) (fun z => .tuple #[.slice (some ⟨z.1, 0, none⟩) es.length es.length, .int .i64 0]) (fun z => z.1 < z.2.heap.size ∧ ∀ k : Nat, k < es.length → ∃ (q : Option Addr) (c : Nat), z.2.cell? ⟨z.1, k, none⟩ = some (.slice q (predsF G 0 (k : Int)).length c) ∧ IntsO z.2 (low z.2) (predsF G 0 (k : Int)) q) (fun z => Cls [] [z.2, w0, w]) rfl rfl (by exact Args.au) (fun w2 hw2 => (hP w2 _ _ hw2 (by exact mau) (fun k hk => NotOwned.nil)).mono fun e w3 ⟨h2, h3⟩ => ?_) ?_
  · rcases h3 with ⟨h3, _⟩ | ⟨_, bO, h4, h5, h6⟩
    · exact absurd rfl h3
    · exact ⟨(bO, w3), h4, ⟨h5, h6⟩, (hw2.ext h2).note⟩
  rintro ⟨bO, wP⟩ ⟨hbO, hPr⟩
  simp only at hbO hPr ⊢
  apply omv; rfl; rfl
  apply oex; rfl; rfl; rfl
  apply oex; rfl; rfl; rfl
  apply oas; rfl; rfl
  apply oas; rfl; rfl
  apply OL.nsr
  apply oop; rfl; apply Pev.load_keptA; rfl; exact yes; exact .tail _ (.head _); rfl; intro hcond; assumption; rfl; intro hcond; assumption; intro hcond; exact NotOwned.au
  refine OL.callE (α := (Option Addr × Nat) × World) (fun z => .tuple #[.slice z.1.1 (isrt O.2.reverse).length z.1.2, .int .i64 0]) (fun z => IntsO z.2 (low z.2) (isrt O.2.reverse) z.1.1) (fun z => Cls [] [z.2, wP, w0, w]) rfl rfl (by exact Args.au) (fun w2 hw2 => (hRb w2 _ _ hw2 (by exact mau) (fun k hk => NotOwned.nil)).mono fun e w3 ⟨h2, h3⟩ => ?_) ?_
  · rcases h3 with ⟨h3, _⟩ | ⟨_, q', c', h4, h5⟩
    · exact absurd rfl h3
    · exact ⟨((q', c'), w3), h4, h5, (hw2.ext h2).note⟩
  rintro ⟨⟨ql, cl⟩, wl⟩ hIl
  simp only at hIl ⊢
  apply omv; rfl; rfl
  apply oex; rfl; rfl; rfl
  apply oex; rfl; rfl; rfl
  apply oas; rfl; rfl
  apply oas; rfl; rfl
  apply OL.nsr
  apply oop; rfl; apply Pev.load_keptA; rfl; exact yes; exact .tail _ (.tail _ (.head _)); rfl; intro hcond; assumption; rfl; intro hcond; assumption; intro hcond; exact NotOwned.au
  refine OL.callE (α := (Option Addr × Nat) × World) (fun z => .tuple #[.slice z.1.1 O.2.reverse.length z.1.2, .int .i64 0]) (fun z => IntsO z.2 (low z.2) O.2.reverse z.1.1 ∧ wP.heap.size ≤ z.2.heap.size ∧ w0.heap.size ≤ z.2.heap.size ∧ w.heap.size ≤ z.2.heap.size ∧ wl.heap.size ≤ z.2.heap.size) (fun z => Cls [] [z.2, wl, wP, w0, w]) rfl rfl (by exact Args.au) (fun w2 hw2 => (hOr w2 _ _ hw2 (by exact mau) (fun k hk => NotOwned.nil)).mono fun e w3 ⟨h2, h3⟩ => ?_) ?_
  · rcases h3 with ⟨h3, _⟩ | ⟨_, q', c', h4, h5⟩
    · exact absurd rfl h3
    · have hx := hw2.ext h2
      exact ⟨((q', c'), w3), h4, ⟨h5, (hx.kp wP (by exact mau)).size, (hx.kp w0 (by exact mau)).size, (hx.kp w (by exact mau)).size, (hx.kp wl (by exact mau)).size⟩, hx.note⟩
  rintro ⟨⟨qo, co⟩, wo⟩ ⟨hIo, hszo⟩
  simp only at hIo hszo ⊢
  have haL : ∀ k, wo.heap.size ≤ k → AllLe [wo, wl, wP, w0, w] k := fun k hk => ⟨hk, Nat.le_trans hszo.2.2.2 hk, Nat.le_trans hszo.1 hk, Nat.le_trans hszo.2.1 hk, Nat.le_trans hszo.2.2.1 hk, trivial⟩
  apply omv; rfl; rfl
  apply oex; rfl; rfl; rfl
  apply oex; rfl; rfl; rfl
  apply oas; rfl; rfl
  apply oas; rfl; rfl
  apply OL.nx
  apply W.seq
  apply W.sr
  apply oop; rfl; apply Pev.load_keptA; rfl; exact yes; exact .tail _ (.tail _ (.tail _ (.head _))); rfl; intro hcond; assumption; rfl; intro hcond; assumption; intro hcond; exact NotOwned.au
  (((first | (with_reducible apply OL.op) | (with_reducible apply QL.op)); (exact Guard.au); rfl; rfl); (exact Pev.call (v := .int .i64 0) rfl (by exact Args.au) (fun _ w2 hw2 => (hFe w2 _ _ hw2 (by exact mau) (fun k hk => NotOwned.nil)).mono (fun e w3 h => ⟨h.1, hw2.ext h.2⟩))))
  apply oas; rfl; rfl
  apply OL.nsr
  apply omv; rfl; rfl
  apply obn; rfl; rfl; rfl; apply Bin.neq
  apply OL.nx
  refine W.cond rfl (fun h => by simp at h) (fun _ => ?_)
  apply W.sk
  apply W.seq
  apply W.sr
  apply omv; rfl; rfl
  apply obn; rfl; rfl; rfl; apply Bin.neq
  apply omv; rfl; rfl
  apply ono; rfl; rfl; rfl; apply Pev.move; rfl; exact yes
  apply ono; rfl; rfl; rfl; apply Pev.bin; rfl; exact yes; rfl; exact yes; intro hcond; apply Bin.neq
  apply oop; rfl; apply Pev.pick_or; rfl; exact yes; rfl; exact yes
  apply omv; rfl; rfl
  apply ono; rfl; rfl; rfl; apply Pev.move; rfl; exact yes
  apply ono; rfl; rfl; rfl; apply Pev.bin; rfl; exact yes; rfl; exact yes; intro hcond; apply Bin.neq
  apply oop; rfl; apply Pev.pick_or; rfl; exact yes; rfl; exact yes
  apply omv; rfl; rfl
  apply ono; rfl; rfl; rfl; apply Pev.move; rfl; exact yes
  apply ono; rfl; rfl; rfl; apply Pev.len_slice; rfl; exact yes; rfl
  apply ono; rfl; rfl; rfl; apply Pev.fld; rfl; exact yes; rfl
  apply ono; rfl; rfl; rfl; apply Pev.load_kept; rfl; exact yes; exact .tail _ (.tail _ (.tail _ (.head _))); rfl; intro hcond; assumption; intro hcond; assumption; intro hcond; exact NotOwned.au
  apply ono; rfl; rfl; rfl; apply Pev.len_slice; rfl; exact yes; rfl
  apply ono; rfl; rfl; rfl; apply Pev.bin; rfl; exact yes; rfl; exact yes; intro hcond; apply Bin.neq
  apply oop; rfl; apply Pev.pick_or; rfl; exact yes; rfl; exact yes
  apply OL.nx
  refine W.cond rfl (fun h => by simp at h) (fun _ => ?_)
  apply W.sk
  apply W.sr
  apply oas; rfl; rfl
  apply OL.nx
  apply W.seq
  apply W.sr
  apply oop; rfl; apply Pev.load_keptA; rfl; exact yes; exact .tail _ (.tail _ (.tail _ (.head _))); rfl; intro hcond; assumption; rfl; intro hcond; assumption; intro hcond; exact NotOwned.au
  refine OL.callE (α := Nat × List Bool) (fun z => .slice (some ⟨z.1, 0, none⟩) es.length es.length) (fun z => wo.heap.size ≤ z.1 ∧ z.2.length = es.length ∧ ∀ k : Nat, z.2[k]? = some true ↔ Rc G (-1) k) (fun z => Cls [blk z.1 4 (bls z.2)] [wo, wl, wP, w0, w]) rfl rfl (by exact Args.au) (fun w2 hw2 => (Reach_calls es q cap nm (-1) w2 (he.at hw2 (by exact mau) (fun k hk => NotOwned.nil)) (by omega)).mono fun e w3 ⟨bR, B, h1, h2, h3, h4, h5, h6⟩ => ⟨(bR, B), h1, ⟨Nat.le_trans (hw2.kp wo (by exact mau)).size h5, h2, by rw [hes, hG] at h3; exact h3⟩, hw2.add h4 _ h6 (fun k hk => by rw [show k = bR from hk]; exact ⟨h5, blk_lt h6⟩)⟩) ?_
  rintro ⟨bR, B⟩ ⟨hbR, hBl, hB⟩
  simp only at hbR hBl hB ⊢
  apply oop; rfl; apply Pev.len_slice; rfl; exact yes; rfl
  apply omv; rfl; rfl
  apply OL.nx
  apply W.block
  refine W.loop (G := Nat × GR) (fun g => g.1 ≤ es.length) (fun g => es.length - g.1)
    (fun g => [(1, true, .pointer (some ⟨bF, 0, none⟩)), (3, true, .slice (some ⟨bO, 0, none⟩) es.length es.length), (5, true, .slice ql (isrt O.2.reverse).length cl), (7, true, .slice qo O.2.reverse.length co), (10, true, .slice g.2.q (allK B g.1).length g.2.c), (82, true, .slice (some ⟨bR, 0, none⟩) es.length es.length), (83, true, .int .i64 (es.length : Int)), (84, true, .int .i64 (g.1 : Int))])
    (fun g => Cls [row wo.heap.size g.2.O g.2.q (allK B g.1).length g.2.c 3 1 (ints (allK B g.1)), blk bR 4 (bls B)] [wo, wl, wP, w0, w]) (0, ⟨fun _ => False, none, 0⟩) (by simp) (by exact Sub.au) (fun w' hw' => hw'.row_nil wo.heap.size 3 1) ?_
  rintro ⟨k, ⟨O0, q0, c0⟩⟩ hk
  simp only at hk ⊢
  apply W.sr
  apply obn; rfl; rfl; rfl; apply Bin.lss
  apply OL.nx
  apply W.seq
  (refine W.cnd (fun hlt => ?_) (fun hlt => ?_)) <;> (try (exfalso; first | omega | exact hlt trivial | contradiction))
  · have hkl : k < es.length := by omega
    have hbk : B[k]? = some (B.getD k false) := getD_true (by omega)
    have hbv : (bls B)[0 + (k : Int).toNat * 1]? = some (.bool (B.getD k false)) := by
      rw [show 0 + (k : Int).toNat * 1 = k by omega]
      exact bls_get hbk
    obtain ⟨qk, ck, hck, hIk⟩ := hPr k hkl
    have hck2 : wP.cell? ⟨bO, 0 + (k : Int).toNat * 1, none⟩ = some (.slice qk (predsF G 0 (k : Int)).length ck) := by
      rw [show 0 + (k : Int).toNat * 1 = k by omega]
      exact hck
    have hal := allK_len B k
    have hpl : (predsF G 0 (k : Int)).length ≤ 128 * 257 := by
      have h9 := predsF_len (M := 257) (G := G) (n := 0) (k := (k : Int)) hGM
      have : G.length * 257 ≤ 128 * 257 := Nat.mul_le_mul_right _ (by omega)
      omega
    have hs1 : wP.heap.size ≤ wo.heap.size := hszo.1
    have hs2 : w0.heap.size ≤ wo.heap.size := hszo.2.1
    have hs3 : w.heap.size ≤ wo.heap.size := hszo.2.2.1
    apply W.sk
    apply W.sb
    apply W.sr
    apply omv; rfl; rfl
    apply oop; rfl; apply Pev.idxB; rfl; exact yes; rfl; exact yes; rfl; intro hcond; omega; rfl
    apply oop; rfl; apply Pev.load_blk; rfl; exact yes; exact .tail _ (.head _); rfl; assumption
    apply oas; rfl; rfl
    apply oas; rfl; rfl
    apply OL.nx
    apply W.seq
    apply W.seq
    refine W.regany (X := XZ5 wo.heap.size) (fun x e => [(97, true, bif e 8 then .bool (!true) else x.old 97), (96, true, bif e 7 then .bool true else x.old 96), (95, true, bif e 6 then .slice x.q (predsF G 0 (k : Int)).length x.c else x.old 95), (94, true, bif e 5 then .int .i64 (k : Int) else x.old 94), (93, true, bif e 4 then .agg #[.int .i64 nm, .slice q es.length cap] else x.old 93), (92, true, bif e 3 then .slice qk (predsF G 0 (k : Int)).length ck else x.old 92), (91, true, bif e 2 then .pointer (some ⟨bO, 0 + (k : Int).toNat * 1, none⟩) else x.old 91), (90, true, bif e 1 then .int .i64 (k : Int) else x.old 90), (89, true, bif e 0 then .slice (some ⟨bO, 0, none⟩) es.length es.length else x.old 89), (12, true, .bool (B.getD k false)), (11, true, .int .i64 (k : Int)), (1, true, .pointer (some ⟨bF, 0, none⟩)), (3, true, .slice (some ⟨bO, 0, none⟩) es.length es.length), (5, true, .slice ql (isrt O.2.reverse).length cl), (7, true, .slice qo O.2.reverse.length co), (10, true, .slice q0 (allK B k).length c0), (82, true, .slice (some ⟨bR, 0, none⟩) es.length es.length), (83, true, .int .i64 (es.length : Int)), (84, true, .int .i64 (k : Int))])
      (fun x e => (row wo.heap.size O0 q0 (allK B k).length c0 3 1 (ints (allK B k))) :: (blk bR 4 (bls B)) :: (bif e 6 then pile x.pB (fun k => k < x.pT) [⟨x.q, x.c, ints (predsF G 0 (k : Int))⟩] else nothing) :: [])
      (fun old => ⟨none, 0, wo.heap.size, Nat.le_refl _, 0, old⟩) (by kernel_rfl) (by kernel_rfl) (fun w hw => hw.drew) (fun old => by repeat (first | exact SubO.nil | apply SubO.cons rfl | refine SubO.old rfl ?_)) (fun old w' hw' => hw'.add_nothing) ?_ ?_
    · intro x e i o ho hei hd hcl
      have hi : i < 9 := (List.getElem?_eq_some_iff.1 ho).1
      obtain rfl | rfl | rfl | rfl | rfl | rfl | rfl | rfl | rfl : i = 0 ∨ i = 1 ∨ i = 2 ∨ i = 3 ∨ i = 4 ∨ i = 5 ∨ i = 6 ∨ i = 7 ∨ i = 8 := by omega
      · cases ho
        have v0 : Eng.upd e 0 0 = true := upd_eq
        simp only [hei, cond_true, cond_false]
        apply omv; rfl; rfl
        apply OL.nil
        exact At.beside x (by repeat (first | exact Sub.nil | apply Sub.cons rfl | refine Sub.cons_eq rfl (by simp only [v0, cond_true, cond_false]) ?_)) (fun w' hw' => by first | exact hw' | (simp only [v0, cond_true, cond_false]; exact hw'))
      · cases ho
        have v1 : Eng.upd e 1 1 = true := upd_eq
        simp only [hei, cond_true, cond_false]
        apply omv; rfl; rfl
        apply OL.nil
        exact At.beside x (by repeat (first | exact Sub.nil | apply Sub.cons rfl | refine Sub.cons_eq rfl (by simp only [v1, cond_true, cond_false]) ?_)) (fun w' hw' => by first | exact hw' | (simp only [v1, cond_true, cond_false]; exact hw'))
      · cases ho
        have h0 : e 0 = true := hd ⟨0, .data⟩ (by simp) rfl
        have h1 : e 1 = true := hd ⟨1, .data⟩ (by simp) rfl
        have v2 : Eng.upd e 2 2 = true := upd_eq
        have v0 : Eng.upd e 2 0 = true := upd_mono h0
        have v1 : Eng.upd e 2 1 = true := upd_mono h1
        simp only [hei, h0, h1, cond_true, cond_false]
        apply oop; rfl; apply Pev.idxB; rfl; exact yes; rfl; exact yes; rfl; intro hcond; omega; rfl
        apply OL.nil
        exact At.beside x (by repeat (first | exact Sub.nil | apply Sub.cons rfl | refine Sub.cons_eq rfl (by simp only [v2, v0, v1, cond_true, cond_false]) ?_)) (fun w' hw' => by first | exact hw' | (simp only [v2, v0, v1, cond_true, cond_false]; exact hw'))
      · cases ho
        have h2 : e 2 = true := hd ⟨2, .data⟩ (by simp) rfl
        have v3 : Eng.upd e 3 3 = true := upd_eq
        have v2 : Eng.upd e 3 2 = true := upd_mono h2
        simp only [hei, h2, cond_true, cond_false]
        have hxp := x.hpB
        apply oop; rfl; apply Pev.load_kept; rfl; exact yes; exact .tail _ (.tail _ (.head _)); rfl; intro hcond; assumption; intro hcond; assumption; intro hcond; exact NotOwned.au
        apply OL.nil
        exact At.beside x (by repeat (first | exact Sub.nil | apply Sub.cons rfl | refine Sub.cons_eq rfl (by simp only [v3, v2, cond_true, cond_false]) ?_)) (fun w' hw' => by first | exact hw' | (simp only [v3, v2, cond_true, cond_false]; exact hw'))
      · cases ho
        have v4 : Eng.upd e 4 4 = true := upd_eq
        simp only [hei, cond_true, cond_false]
        have hxp := x.hpB
        apply oop; rfl; apply Pev.load_keptA; rfl; exact yes; exact .tail _ (.tail _ (.tail _ (.head _))); rfl; intro hcond; assumption; rfl; intro hcond; assumption; intro hcond; exact NotOwned.au
        apply OL.nil
        exact At.beside x (by repeat (first | exact Sub.nil | apply Sub.cons rfl | refine Sub.cons_eq rfl (by simp only [v4, cond_true, cond_false]) ?_)) (fun w' hw' => by first | exact hw' | (simp only [v4, cond_true, cond_false]; exact hw'))
      · cases ho
        have v5 : Eng.upd e 5 5 = true := upd_eq
        simp only [hei, cond_true, cond_false]
        apply omv; rfl; rfl
        apply OL.nil
        exact At.beside x (by repeat (first | exact Sub.nil | apply Sub.cons rfl | refine Sub.cons_eq rfl (by simp only [v5, cond_true, cond_false]) ?_)) (fun w' hw' => by first | exact hw' | (simp only [v5, cond_true, cond_false]; exact hw'))
      · cases ho
        have h4 : e 4 = true := hd ⟨4, .data⟩ (by simp) rfl
        have h5 : e 5 = true := hd ⟨5, .data⟩ (by simp) rfl
        have v6 : Eng.upd e 6 6 = true := upd_eq
        have v4 : Eng.upd e 6 4 = true := upd_mono h4
        have v5 : Eng.upd e 6 5 = true := upd_mono h5
        simp only [hei, h4, h5, cond_true, cond_false]
        have hxp := x.hpB
        refine OL.callE (α := Option Addr × Nat × Nat × Nat) (fun z => .slice z.1 (predsF G 0 (k : Int)).length z.2.1) (fun z => wo.heap.size ≤ z.2.2.1) (fun z => Cls [pile z.2.2.1 (fun k => k < z.2.2.2) [⟨z.1, z.2.1, ints (predsF G 0 (k : Int))⟩], row wo.heap.size O0 q0 (allK B k).length c0 3 1 (ints (allK B k)), blk bR 4 (bls B), nothing] [wo, wl, wP, w0, w]) rfl rfl (by exact Args.au) (fun w2 hw2 => (RPreds_calls es q cap nm (k : Int) w2 (he.at hw2 (by exact mau) (fun k hk => NotOwned.row (by omega) (NotOwned.blk (by omega) (NotOwned.nothing NotOwned.nil)))) (by omega) hM).mono fun e w3 ⟨q', c', h1, h2, h3⟩ => ⟨(q', c', w2.heap.size, w3.heap.size), by rw [h1, hes, hG], (hw2.kp wo (by exact mau)).size, by rw [hes, hG] at h3; exact hw2.pileS h2 h3⟩) ?_
        rintro ⟨qq, cq, pB, pT⟩ hpB
        simp only at hpB ⊢
        apply OL.nil
        exact At.beside { x with q := qq, c := cq, pB := pB, hpB := hpB, pT := pT } (by repeat (first | exact Sub.nil | apply Sub.cons rfl | refine Sub.cons_eq rfl (by simp only [v6, v4, v5, cond_true, cond_false]) ?_)) (fun w' hw' => by simp only [v6, v4, v5, cond_true, cond_false]; exact Cls.fill (p := 2) (H := _ :: _ :: _ :: []) (.s (.s .z)) hw')
      · cases ho
        have h3 : e 3 = true := hd ⟨3, .data⟩ (by simp) rfl
        have h6 : e 6 = true := hd ⟨6, .data⟩ (by simp) rfl
        have v7 : Eng.upd e 7 7 = true := upd_eq
        have v3 : Eng.upd e 7 3 = true := upd_mono h3
        have v6 : Eng.upd e 7 6 = true := upd_mono h6
        simp only [hei, h3, h6, cond_true, cond_false]
        have hxp := x.hpB
        (((first | (with_reducible apply OL.op) | (with_reducible apply QL.op)); (exact Guard.au); rfl; rfl); (exact Pev.call (v := .bool true) rfl (by exact Args.au) (fun _ w2 hw2 => (SameInts_calls qk x.q ck x.c (predsF G 0 (k : Int)) (predsF G 0 (k : Int)) w2 (by omega) (by omega) (hIk.at hw2 (by exact mau) (fun k hk => NotOwned.row (by omega) (NotOwned.blk (by omega) (NotOwned.pile (by omega) NotOwned.nil)))) (pileI hw2 (.tail _ (.tail _ (.head _))))).mono (fun e w3 h => ⟨by rw [h.1]; simp, hw2.ext h.2⟩))))
        apply OL.nil
        exact At.beside x (by repeat (first | exact Sub.nil | apply Sub.cons rfl | refine Sub.cons_eq rfl (by simp only [v7, v3, v6, cond_true, cond_false]) ?_)) (fun w' hw' => by first | exact hw' | (simp only [v7, v3, v6, cond_true, cond_false]; exact hw'))
      · cases ho
        have h7 : e 7 = true := hd ⟨7, .data⟩ (by simp) rfl
        have v8 : Eng.upd e 8 8 = true := upd_eq
        have v7 : Eng.upd e 8 7 = true := upd_mono h7
        simp only [hei, h7, cond_true, cond_false]
        apply oop; rfl; apply Pev.not; rfl; exact yes
        apply OL.nil
        exact At.beside x (by repeat (first | exact Sub.nil | apply Sub.cons rfl | refine Sub.cons_eq rfl (by simp only [v8, v7, cond_true, cond_false]) ?_)) (fun w' hw' => by first | exact hw' | (simp only [v8, v7, cond_true, cond_false]; exact hw'))
    · intro x e hall
      simp only [hall 0 (by decide), hall 1 (by decide), hall 2 (by decide), hall 3 (by decide), hall 4 (by decide), hall 5 (by decide), hall 6 (by decide), hall 7 (by decide), hall 8 (by decide), cond_true, cond_false]
      with_reducible apply At.next
      have hxp := x.hpB
      refine W.cond rfl (fun h => by cases h) (fun _ => ?_)
      apply W.sk
      apply W.sr
      apply omv; rfl; rfl
      apply OL.nx
      have hsc := allK_succ B k
      cases hbv2 : B.getD k false with
      | true =>
        rw [hbv2, if_pos rfl] at hsc
        refine W.cond rfl (fun _ => ?_) (fun h => by cases h)
        apply W.reg
        apply omv; rfl; rfl
        apply omv; rfl; rfl
        apply OL.buildSlice; rfl; rfl; rfl; exact Elems.au; rfl; rfl; (intro bk hbk; simp only [AllLe, and_true] at hbk)
        apply OL.append; rfl; rfl; rfl; rfl; exact Hole.au; exact .head _; exact Take.au; rfl; rfl; exact ⟨_, .head _, Nat.le_refl _⟩; omega; intro O1 g1 cap1
        apply oas; rfl; rfl
        apply OL.nil
        with_reducible apply At.in_normal
        with_reducible apply At.next
        apply W.reg
        apply obn; rfl; rfl; rfl; apply Bin.add_in; omega
        apply omv; rfl; rfl
        apply OL.nil
        refine At.again (k + 1, ⟨O1, some ⟨g1, 0, none⟩, cap1⟩) (by simp only; omega) (by simp only; omega) (by simp only [hsc, List.length_append, List.length_cons, List.length_nil]; exact Sub.au) (fun w' hw' => ?_)
        simp only [hsc, ints_append, List.length_append, List.length_cons, List.length_nil]
        exact hw'.thin (.any (fun k hk => by rw [show k = bk from hk]; first | exact hbk | exact haL _ hbk | exact haL _ hbk.1) (.keep (.keep (.any (fun k hk => haL k (Nat.le_trans hxp hk.1)) Thin.nil))))
      | false =>
        rw [hbv2, if_neg (by decide), List.append_nil] at hsc
        refine W.cond rfl (fun h => by cases h) (fun _ => ?_)
        apply W.skip
        with_reducible apply At.in_normal
        with_reducible apply At.next
        apply W.reg
        apply obn; rfl; rfl; rfl; apply Bin.add_in; omega
        apply omv; rfl; rfl
        apply OL.nil
        refine At.again (k + 1, ⟨O0, q0, c0⟩) (by simp only; omega) (by simp only; omega) (by simp only [hsc]; exact Sub.au) (fun w' hw' => ?_)
        simp only [hsc]
        exact hw'.thin (.keep (.keep (.any (fun k hk => haL k (Nat.le_trans hxp hk.1)) Thin.nil)))
  · obtain rfl : k = es.length := by omega
    have hfin : isrt O.2.reverse = allK B es.length := by
      have h9 := reach_all hGE (by omega) hB
      rw [hGl, hO] at h9
      exact h9
    rw [← hfin]
    have hA := fun w2 (H : List Eng.Item) hw2 (hno : ∀ k, k < w.heap.size → NotOwned H k) => After_calls es q cap nm w2 (he.at (w := w) (H := H) (S := [wo, wl, wP, w0, w]) hw2 (by exact mau) hno) (by omega) (by omega) (fun p hp e hpe => by rw [← hbl2]; exact shape_edges hs0 p.1 (by rw [← hes]; exact List.mem_map_of_mem hp) e hpe)
    rw [hes, hG, hO] at hA
    have hol : O.2.length ≤ es.length := by
      have h1 := visC_cnt (G := G) (k := 0) (st := (List.replicate es.length false, [])) (by simp [show 0 < es.length by omega])
      have h2 := unseen_le (List.replicate es.length false)
      rw [hO] at h1
      simp at h1 h2
      omega
    have hil : (isrt O.2.reverse).length = O.2.length := by rw [isrt_len, List.length_reverse]
    have hs1 : wP.heap.size ≤ wo.heap.size := hszo.1
    have hs2 : w0.heap.size ≤ wo.heap.size := hszo.2.1
    have hs3 : w.heap.size ≤ wo.heap.size := hszo.2.2.1
    refine W.xt ?_
    with_reducible apply At.next
    apply W.sr
    apply oop; rfl; apply Pev.load_keptA; rfl; exact yes; exact .tail _ (.tail _ (.tail _ (.head _))); rfl; intro hcond; assumption; rfl; intro hcond; assumption; intro hcond; exact NotOwned.au
    refine OL.callE (α := GR × Nat) (fun z => .slice z.1.q O.2.length z.1.c) (fun z => wo.heap.size ≤ z.2) (fun z => Cls [row z.2 z.1.O z.1.q O.2.length z.1.c 3 1 (ints O.2), row wo.heap.size O0 q0 (isrt O.2.reverse).length c0 3 1 (ints (isrt O.2.reverse)), blk bR 4 (bls B)] [wo, wl, wP, w0, w]) rfl rfl (by exact Args.au) (fun w2 hw2 => (hA w2 _ hw2 (fun k hk => NotOwned.row (by omega) (NotOwned.blk (by omega) NotOwned.nil))).mono fun e w3 ⟨O', q', c', h1, h2⟩ => ⟨(⟨O', q', c'⟩, w2.heap.size), h1, (hw2.kp wo (by exact mau)).size, hw2.plus h2 (fun k hk => hk.1)⟩) ?_
    rintro ⟨⟨Oa, qa, ca⟩, BA⟩ hBA
    simp only at hBA ⊢
    apply oas; rfl; rfl
    apply OL.nx
    apply W.seq
    apply W.sr
    apply omv; rfl; rfl
    apply oop; rfl; apply Pev.len_slice; rfl; exact yes; rfl
    apply obn; rfl; rfl; rfl; apply Bin.quo_in; omega
    apply omv; rfl; rfl
    apply OL.nx
    apply W.block
    refine W.loop (G := Nat × List Int) (fun g => g.1 ≤ O.2.length / 2 ∧ swapK O.2 g.1 g.2) (fun g => O.2.length / 2 - g.1)
      (fun g => [(5, true, .slice ql (isrt O.2.reverse).length cl), (7, true, .slice qo O.2.reverse.length co), (10, true, .slice q0 (isrt O.2.reverse).length c0), (13, true, .slice qa O.2.length ca), (108, true, .int .i64 ((O.2.length / 2 : Nat) : Int)), (109, true, .int .i64 (g.1 : Int))])
      (fun g => Cls [row BA Oa qa O.2.length ca 3 1 (ints g.2), row wo.heap.size O0 q0 (isrt O.2.reverse).length c0 3 1 (ints (isrt O.2.reverse)), blk bR 4 (bls B)] [wo, wl, wP, w0, w]) (0, O.2) ⟨by simp, swapK_zero O.2⟩ (by exact Sub.au) (fun w' hw' => hw') ?_
    rintro ⟨k, m⟩ ⟨hk, hsw⟩
    simp only at hk hsw ⊢
    have hml := hsw.1
    apply W.sr
    apply obn; rfl; rfl; rfl; apply Bin.lss
    apply OL.nx
    apply W.seq
    (refine W.cnd (fun hlt2 => ?_) (fun hlt2 => ?_)) <;> (try (exfalso; first | omega | exact hlt2 trivial | contradiction))
    · have hkl : k < O.2.length / 2 := by omega
      refine W.fact (fun w2 hw2 => row_some (hw2.item (.head _)) (by omega)) ?_
      rintro ⟨ga, rfl⟩
      obtain ⟨va, hva⟩ : ∃ v, m[k]? = some v := ⟨_, List.getElem?_eq_getElem (by omega)⟩
      obtain ⟨vb, hvb⟩ : ∃ v, m[O.2.length - 1 - k]? = some v := ⟨_, List.getElem?_eq_getElem (by omega)⟩
      have hla : (ints m)[0 + (k : Int).toNat * 1]? = some (.int .i64 va) := by
        rw [show 0 + (k : Int).toNat * 1 = k by omega]
        exact ints_get hva
      have hlb : (ints m)[0 + ((O.2.length : Int) - 1 - (k : Int)).toNat * 1]? = some (.int .i64 vb) := by
        rw [show 0 + ((O.2.length : Int) - 1 - (k : Int)).toNat * 1 = O.2.length - 1 - k by omega]
        exact ints_get hvb
      apply W.sk
      apply W.sb
      apply W.sr
      apply omv; rfl; rfl
      apply oas; rfl; rfl
      apply OL.nx
      apply W.regz; apply ZSplit.pure rfl; apply ZSplit.pure rfl; apply ZSplit.pure rfl; apply ZSplit.pure rfl; apply ZSplit.pure rfl; apply ZSplit.pure rfl; apply ZSplit.pure rfl; apply ZSplit.pure rfl; apply ZSplit.pure rfl; apply ZSplit.pure rfl; apply ZSplit.pure rfl; apply ZSplit.pure rfl; apply ZSplit.pure rfl; apply ZSplit.pure rfl; apply ZSplit.pure rfl; apply ZSplit.pure rfl; apply ZSplit.pure rfl; apply ZSplit.pure rfl; apply ZSplit.pure rfl; apply ZSplit.pure rfl; apply ZSplit.pure rfl; apply ZSplit.tail; apply ZSplit.tail; apply ZSplit.tail; exact ZSplit.nil; kernel_rfl; decide +kernel; exact fun w hw => hw.drew
      apply ZL.op rfl; exact Guard.none; rfl; rfl; apply Pev.move; rfl; exact yes
      apply ZL.op rfl; exact Guard.none; rfl; rfl; apply Pev.move; rfl; exact yes
      apply ZL.op rfl; exact Guard.none; rfl; rfl; apply Pev.move; rfl; exact yes
      apply ZL.op rfl; exact Guard.none; rfl; rfl; apply Pev.move; rfl; exact yes
      apply ZL.op rfl; exact Guard.none; rfl; rfl; apply Pev.len_slice; rfl; exact yes; rfl
      apply ZL.op rfl; exact Guard.none; rfl; rfl; apply Pev.bin; rfl; exact yes; rfl; exact yes; intro hcond; apply Bin.sub_in; omega
      apply ZL.op rfl; exact Guard.none; rfl; rfl; apply Pev.move; rfl; exact yes
      apply ZL.op rfl; exact Guard.none; rfl; rfl; apply Pev.bin; rfl; exact yes; rfl; exact yes; intro hcond; apply Bin.sub_in; omega
      apply ZL.op rfl; exact Guard.none; rfl; rfl; apply Pev.move; rfl; exact yes
      apply ZL.op rfl; exact Guard.none; rfl; rfl; apply Pev.move; rfl; exact yes
      apply ZL.op rfl; exact Guard.none; rfl; rfl; apply Pev.len_slice; rfl; exact yes; rfl
      apply ZL.op rfl; exact Guard.none; rfl; rfl; apply Pev.bin; rfl; exact yes; rfl; exact yes; intro hcond; apply Bin.sub_in; omega
      apply ZL.op rfl; exact Guard.none; rfl; rfl; apply Pev.move; rfl; exact yes
      apply ZL.op rfl; exact Guard.none; rfl; rfl; apply Pev.bin; rfl; exact yes; rfl; exact yes; intro hcond; apply Bin.sub_in; omega
      apply ZL.op rfl; exact Guard.none; rfl; rfl; apply Pev.idxB; rfl; exact yes; rfl; exact yes; rfl; intro hcond; omega; rfl
      apply ZL.ld rfl; exact Guard.none; rfl; rfl; apply Pev.load_row; rfl; exact yes; exact .head _; rfl; assumption
      apply ZL.op rfl; exact Guard.none; rfl; rfl; apply Pev.move; rfl; exact yes
      apply ZL.op rfl; exact Guard.none; rfl; rfl; apply Pev.move; rfl; exact yes
      apply ZL.op rfl; exact Guard.none; rfl; rfl; apply Pev.idxB; rfl; exact yes; rfl; exact yes; rfl; intro hcond; omega; rfl
      apply ZL.ld rfl; exact Guard.none; rfl; rfl; apply Pev.load_row; rfl; exact yes; exact .head _; rfl; assumption
      apply ZL.op rfl; exact Guard.none; rfl; rfl; apply Pev.idxB; rfl; exact yes; rfl; exact yes; rfl; intro hcond; omega; rfl
      apply ZL.nil
      apply TL.one rfl
      (apply OL.storeRs); rfl; rfl; rfl; rfl; rfl; (exact Hole.au); (rw [ints_length]; omega)
      apply OL.nil
      with_reducible apply At.tn; decide +kernel
      apply TL.one rfl
      apply oop; rfl; apply Pev.idxB; rfl; exact yes; rfl; exact yes; rfl; intro hcond; omega; rfl
      apply OL.nil
      with_reducible apply At.tn; decide +kernel
      apply TL.one rfl
      (apply OL.storeRs); rfl; rfl; rfl; rfl; rfl; (exact Hole.au); (rw [List.length_set, ints_length]; omega)
      rw [show ((ints m).set (0 + (k : Int).toNat * 1) (.int .i64 vb)).set (0 + ((O.2.length : Int) - 1 - (k : Int)).toNat * 1) (.int .i64 va) = ints ((m.set k vb).set (O.2.length - 1 - k) va) by
        rw [show 0 + (k : Int).toNat * 1 = k by omega, show 0 + ((O.2.length : Int) - 1 - (k : Int)).toNat * 1 = O.2.length - 1 - k by omega]
        simp [ints, List.map_set]]
      apply OL.nil
      with_reducible apply At.tn; decide +kernel
      apply TL.nil
      with_reducible apply At.np
      with_reducible apply At.in_normal
      with_reducible apply At.next
      apply W.reg
      apply obn; rfl; rfl; rfl; apply Bin.add_in; omega
      apply omv; rfl; rfl
      apply OL.nil
      exact At.again (k + 1, (m.set k vb).set (O.2.length - 1 - k) va) ⟨by simp only; omega, swapK_step hsw hkl hva hvb⟩ (by simp only; omega) (by exact Sub.au) (fun w' hw' => hw')
    · obtain rfl : k = O.2.length / 2 := by omega
      have hmr : m = O.2.reverse := swapK_done hsw
      subst hmr
      have hS2 := fun w2 (h1 : IntsO w2 (low w2) O.2.reverse qo) (h2 : IntsO w2 (low w2) O.2.reverse qa) => SameInts_calls qo qa co ca O.2.reverse O.2.reverse w2 (by rw [List.length_reverse]; omega) (by rw [List.length_reverse]; omega) h1 h2
      simp only [List.length_reverse] at hS2 ⊢
      refine W.xt ?_
      with_reducible apply At.next
      apply W.sr
      apply omv; rfl; rfl
      apply omv; rfl; rfl
      (((first | (with_reducible apply OL.op) | (with_reducible apply QL.op)); (exact Guard.au); rfl; rfl); (exact Pev.call (v := .bool true) rfl (by exact Args.au) (fun _ w2 hw2 => (SameInts_calls ql q0 cl c0 (isrt O.2.reverse) (isrt O.2.reverse) w2 (by omega) (by omega) (hIl.at hw2 (by exact mau) (fun k hk => NotOwned.row (by have := hszo.2.2.2; omega) (NotOwned.row (by have := hszo.2.2.2; omega) (NotOwned.blk (by have := hszo.2.2.2; omega) NotOwned.nil)))) (rowIntsL hw2 (.tail _ (.head _)))).mono (fun e w3 h => ⟨by rw [h.1]; simp, hw2.ext h.2⟩))))
      apply omv; rfl; rfl
      apply oy; rfl; rfl; rfl; apply Pev.move; rfl; exact yes
      apply oy; rfl; rfl; rfl; apply Pev.move; rfl; exact yes
      (((first | (with_reducible apply OL.op) | (with_reducible apply QL.op)); (exact Guard.au); rfl; rfl); (exact Pev.call (v := .bool true) rfl (by exact Args.au) (fun _ w2 hw2 => (hS2 w2 (hIo.at hw2 (by exact mau) (fun k hk => NotOwned.row (by omega) (NotOwned.row (by omega) (NotOwned.blk (by omega) NotOwned.nil)))) (rowIntsD hw2)).mono (fun e w3 h => ⟨by rw [h.1]; simp, hw2.ext h.2⟩))))
      apply oop; rfl; apply Pev.pick_and; rfl; exact yes; rfl; exact yes
      apply oas; rfl; rfl
      apply OL.nx
      apply W.ret
      ((with_reducible apply At.fin1); rfl; rfl; intro w' hw')
      exact ⟨by simp, (hw'.thin (.any (fun k hk => haL k (Nat.le_trans hBA hk.1)) (.any (fun k hk => haL k hk.1) (.any (fun k hk => by rw [show k = bR from hk]; exact haL _ hbR) Thin.nil)))).fr (by exact mau) (fun k hk => NotOwned.nil)⟩
end Go.Proofs.Ytehelljmaiophaa.ss

/- Readings with the reach: what a slice's and a struct's parts are, and how much they weigh at most. General. No condition. -/
namespace Go.Eng
open Go.RowKit Go.ChangeShapes Go.WideShapes Go.ChangeAt
set_option linter.unusedVariables false
set_option linter.unusedSimpArgs false
section
variable {H : Type} {enc : TypeId × Value → H} {P : Program} {w : World} {spare : Nat → Bool} {held : Bool}

/-- a datum within reach -/
def Lt (P : Program) (t : TypeId) (d : DataW H) : Prop := ∀ n ∈ d.weights P t, n ≤ reachBytes
theorem weightsAll_mem {e : TypeId} : ∀ {ds : List (DataW H)} {d : DataW H}, d ∈ ds → ∀ n ∈ d.weights P e, n ∈ DataW.weightsAll P e ds
  | x :: ds, d, hd, n, hn => by
    simp only [DataW.weightsAll, List.mem_append]
    rcases List.mem_cons.1 hd with rfl | hd
    · exact .inl hn
    · exact .inr (weightsAll_mem hd n hn)
theorem Lt.arg {ts : List TypeId} {ds : List (DataW H)} (h : (DataW.weightsEach P ts ds).all (· ≤ reachBytes) = true) {j : Nat} {t : TypeId} {d : DataW H} (ht : ts[j]? = some t) (hd : ds[j]? = some d) : Lt P t d := fun n hn => by
  have := List.all_eq_true.1 h _ (DataW.weights_mem_each ht hd n hn)
  simpa using this
theorem Lt.str {t : TypeId} {b : List UInt8} (h : Lt (H := H) P t (.lit (.string b))) : b.length ≤ reachBytes := h b.length (by simp [DataW.weights])

/-- a struct that reads -/
theorem rd_struct {t : TypeId} {fs : Array Field} {fuel : Nat} {cs : List Value} {x : DataW H × List MemPlace} (ht : P.underlying t = some (.struct fs)) (h : DataW.trod enc P w 0 spare held fuel t cs = some x) (hw : Lt P t x.1) :
    cs.length = P.cellsOf t ∧ ∃ n, n < fuel ∧ ∀ (i : Nat) (f : Field), fs[i]? = some f → ∃ y, DataW.trod enc P w 0 spare held n f.type ((cs.drop f.offset).take (P.cellsOf f.type)) = some y ∧ Lt P f.type y.1 := by
  obtain ⟨xs, n, hfu, rfl, hlen, hxl, hf⟩ := DataW.trod_struct ht h
  refine ⟨hlen, n, by omega, fun i f hi => ?_⟩
  have hlt : i < xs.length := by rw [hxl]; exact (Array.getElem?_eq_some_iff.1 hi).1
  refine ⟨xs[i], by rw [hf i f hi, List.getElem?_eq_getElem hlt], fun k hk => hw k ?_⟩
  simp only [DataW.weights, ht]
  exact DataW.weights_mem_each (j := i) (t := f.type) (d := xs[i].1) (by simpa using ⟨f, by simpa using hi, rfl⟩) (by simp [hlt]) k hk
/-- a slice that reads -/
theorem rd_slice0 {t e : TypeId} {sz fuel : Nat} {cs : List Value} {x : DataW H × List MemPlace} (ht : P.underlying t = some (.slice e)) (hs : P.cellsOf e = sz) (h : DataW.trod enc P w 0 spare held fuel t cs = some x) (hw : Lt P t x.1) :
    ∃ (q : Option Addr) (len cap : Nat), cs = [.slice q len cap] ∧ len ≤ cap ∧ cap ≤ maxLen ∧ len * P.bytesOf e ≤ reachBytes ∧ (q = none → len = 0) ∧
      ∃ n, n < fuel ∧ ∀ a, q = some a → ∀ i, i < len → ∃ cs' y, CellsAt w (a.add (i * sz)) cs' ∧ cs'.length = sz ∧ DataW.trod enc P w 0 spare held n e cs' = some y ∧ Lt P e y.1 := by
  rcases DataW.trod_slice ht h with ⟨rfl, _⟩ | ⟨a, len, cap, elems, rest, n, hf, rfl, rfl, _, hl, hm, hlen, hel, _, _⟩
  · refine ⟨none, 0, 0, rfl, Nat.le_refl _, by simp [maxLen], by simp, fun _ => rfl, 0, ?_, fun a ha => by cases ha⟩
    cases fuel with
    | zero => simp [DataW.trod] at h
    | succ n => omega
  · have hwt : len * P.bytesOf e ≤ reachBytes := by
      have h1 := hw ((elems.map (·.1)).length * P.bytesOf e + (rest.map (·.1)).length * P.bytesOf e) (by simp [DataW.weights, ht, Nat.add_mul])
      rw [List.length_map, hlen] at h1
      omega
    refine ⟨some a, len, cap, rfl, hl, hm, hwt, (fun hn => by cases hn), n, by omega, fun a' ha i hi => ?_⟩
    obtain rfl := Option.some.inj ha
    have h1 := hel i hi
    rw [List.getElem?_eq_getElem (by omega)] at h1
    rw [hs] at h1
    obtain ⟨cs', hc, ht'⟩ := Option.bind_eq_some_iff.1 h1
    obtain ⟨h2, h3⟩ := cellsAt_of hc
    refine ⟨cs', _, h2, h3, ht', fun k hk => hw k ?_⟩
    simp only [DataW.weights, ht]
    exact List.mem_cons_of_mem _ (List.mem_append_left _ (weightsAll_mem (d := elems[i].1) (List.mem_map.2 ⟨_, List.getElem_mem (by omega), rfl⟩) k hk))
variable {α : Type} {f : α → List Value} {sz : Nat} {R : α → Prop}
/-- a slice whose elements read, as a list -/
theorem rd_slice {t e : TypeId} {fuel : Nat} {cs : List Value} {x : DataW H × List MemPlace} (ht : P.underlying t = some (.slice e)) (hs : P.cellsOf e = sz) (hsz : 0 < sz) (hf : ∀ x, (f x).length = sz)
    (he : ∀ (n : Nat) (cs' : List Value) (y : DataW H × List MemPlace), n < fuel → DataW.trod enc P w 0 spare held n e cs' = some y → Lt P e y.1 → ∃ u : α, cs' = f u ∧ R u)
    (h : DataW.trod enc P w 0 spare held fuel t cs = some x) (hw : Lt P t x.1) :
    ∃ (q : Option Addr) (l : List α) (cap : Nat), cs = [.slice q l.length cap] ∧ l.length ≤ cap ∧ cap ≤ maxLen ∧ l.length * P.bytesOf e ≤ reachBytes ∧ SlAt w w.heap.size q (cat f l) ∧ ∀ u ∈ l, R u := by
  obtain ⟨q, len, cap, rfl, hle, hcap, hwt, hq0, m, hm, hel⟩ := rd_slice0 ht hs h hw
  cases q with
  | none =>
    obtain rfl := hq0 rfl
    exact ⟨none, [], cap, rfl, hle, hcap, by simp, SlAt.nil, fun u hu => by cases hu⟩
  | some a =>
    obtain ⟨l, hl, hr⟩ := list_of (fun i (u : α) => CellsAt w (a.add (i * sz)) (f u) ∧ R u) len (fun i hi => by
      obtain ⟨cs', y, hc, hl1, ht', hy⟩ := hel a rfl i hi
      obtain ⟨u, rfl, hR⟩ := he m cs' y hm ht' hy
      exact ⟨u, hc, hR⟩)
    subst hl
    refine ⟨some a, l, cap, rfl, hle, hcap, hwt, fun hv => ⟨a, rfl, ?_, fun j v hj => ?_⟩, fun u hu => ?_⟩
    · rw [cat_length hf] at hv
      have hl0 : 0 < l.length := Nat.pos_of_mul_pos_right hv
      have h0 := (hr 0 _ (List.getElem?_eq_getElem hl0)).1
      rw [Nat.zero_mul, add_zero_] at h0
      have hz : 0 < (f l[0]).length := by rw [hf]; exact hsz
      have := h0 0 _ (List.getElem?_eq_getElem hz)
      rw [add_zero_] at this
      exact cell_lt this
    · have hjl := (List.getElem?_eq_some_iff.1 hj).1
      rw [cat_length hf] at hjl
      have hi : j / sz < l.length := Nat.div_lt_of_lt_mul (by rwa [Nat.mul_comm] at hjl)
      have h0 := (hr (j / sz) _ (List.getElem?_eq_getElem hi)).1
      have hm' : j % sz < (f l[j / sz]).length := by rw [hf]; exact Nat.mod_lt _ hsz
      have h1 := cat_get hf (List.getElem?_eq_getElem hi) (j % sz) _ (List.getElem?_eq_getElem hm')
      have ej : j / sz * sz + j % sz = j := by rw [Nat.mul_comm]; exact Nat.div_add_mod j sz
      rw [ej, hj] at h1
      have h2 := h0 (j % sz) _ (List.getElem?_eq_getElem hm')
      rw [add_add, ej] at h2
      rw [h2, h1]
    · obtain ⟨i, hi, rfl⟩ := List.getElem_of_mem hu
      exact (hr i _ (List.getElem?_eq_getElem hi)).2
end
end Go.Eng

/- Readings with the reach, as relations. General. No condition. Readings of functions in single assignment form. No condition. (Printed by ssw.py.) -/
namespace Go.Eng
open Go.RowKit Go.ChangeShapes Go.WideShapes Go.ChangeAt
set_option linter.unusedVariables false
set_option linter.unusedSimpArgs false
section
variable {H : Type} {enc : TypeId × Value → H} {P : Program} {w : World} {spare : Nat → Bool} {held : Bool} {α μ : Type} {R : Rel α μ}
theorem rd_arrL {t e : TypeId} {fuel : Nat} {cs : List Value} {x : DataW H × List MemPlace} (ht : P.underlying t = some (.slice e)) (hs : P.cellsOf e = R.sz)
    (he : ∀ (n : Nat) (cs' : List Value) (y : DataW H × List MemPlace), n < fuel → DataW.trod enc P w 0 spare held n e cs' = some y → Lt P e y.1 → ∃ u : α × μ, cs' = R.c u ∧ R.ok w (low w) u.1 u.2)
    (h : DataW.trod enc P w 0 spare held fuel t cs = some x) (hw : Lt P t x.1) :
    ∃ (q : Option Addr) (l : List (α × μ)) (cap : Nat), cs = [.slice q l.length cap] ∧ l.length ≤ cap ∧ cap ≤ maxLen ∧ l.length * P.bytesOf e ≤ reachBytes ∧ Arr R w (low w) l q := by
  obtain ⟨q, l, cap, e1, h1, h2, h3, h4, h5⟩ := rd_slice (α := α × μ) (f := R.c) (R := fun u => R.ok w (low w) u.1 u.2) ht hs R.pos R.clen he h hw
  exact ⟨q, l, cap, e1, h1, h2, h3, fun hl => h4 (by rw [cat_length (f := R.c) R.clen]; exact Nat.mul_pos hl R.pos), h5⟩
end
end Go.Eng
namespace Go.Proofs.Ytehelljmaiophaa.ss
open Go.RowKit Go.Eng Go.Ss Go.ChangeShapes Go.WideShapes Go.ChangeAt
set_option linter.unusedVariables false
set_option linter.unusedSimpArgs false
set_option maxRecDepth 100000
section
variable {H : Type} {enc : TypeId × Value → H} {w : World} {spare : Nat → Bool} {held : Bool}
theorem list2 {α : Type} {l : List α} (h : l.length = 2) : ∃ a0 a1, l = [a0, a1] := by
  match l, h with
  | [a0, a1], _ => exact ⟨a0, a1, rfl⟩
theorem list4 {α : Type} {l : List α} (h : l.length = 4) : ∃ a0 a1 a2 a3, l = [a0, a1, a2, a3] := by
  match l, h with
  | [a0, a1, a2, a3], _ => exact ⟨a0, a1, a2, a3, rfl⟩
theorem list5 {α : Type} {l : List α} (h : l.length = 5) : ∃ a0 a1 a2 a3 a4, l = [a0, a1, a2, a3, a4] := by
  match l, h with
  | [a0, a1, a2, a3, a4], _ => exact ⟨a0, a1, a2, a3, a4, rfl⟩
theorem list7 {α : Type} {l : List α} (h : l.length = 7) : ∃ a0 a1 a2 a3 a4 a5 a6, l = [a0, a1, a2, a3, a4, a5, a6] := by
  match l, h with
  | [a0, a1, a2, a3, a4, a5, a6], _ => exact ⟨a0, a1, a2, a3, a4, a5, a6, rfl⟩
theorem reach47 : reachBytes ≤ 140737488355328 := by decide
theorem cat_ints (l : List Int) : cat (fun x : Int => [Value.int .i64 x]) l = ints l := by
  induction l with
  | nil => rfl
  | cons x r ih =>
    show [Value.int .i64 x] ++ cat (fun x : Int => [Value.int .i64 x]) r = _
    rw [ih]
    rfl
theorem ints_rd {fuel : Nat} {cs : List Value} {x : DataW H × List MemPlace} (h : DataW.trod enc Try.prog w 0 spare held fuel 35 cs = some x) (hw : Lt Try.prog 35 x.1) :
    ∃ (q : Option Addr) (l : List Int) (cap : Nat), cs = [.slice q l.length cap] ∧ l.length ≤ cap ∧ l.length ≤ 140737488355328 ∧ IntsO w (low w) l q ∧ ∀ n ∈ l, I64 n := by
  obtain ⟨q, l, cap, e1, h1, h2, h3, h4, h5⟩ := rd_slice (α := Int) (f := fun x => [Value.int .i64 x]) (R := fun n => I64 n) Try.underlying35 (by kernel_rfl) (by decide) (fun _ => rfl) (fun n cs' y _ hy _ => by
    obtain ⟨k, e1, hk⟩ := DataW.trod_int Try.underlying3 hy
    exact ⟨k, e1, wf_i64 hk.2⟩) h hw
  rw [cat_ints] at h4
  have hb : Try.prog.bytesOf 3 = 8 := by kernel_rfl
  rw [hb] at h3
  have := reach47
  exact ⟨q, l, cap, e1, h1, by omega, fun hl => h4 (by rw [ints_length]; exact hl), h5⟩
theorem ed_rd {fuel : Nat} {cs : List Value} {x : DataW H × List MemPlace} (h : DataW.trod enc Try.prog w 0 spare held fuel 105 cs = some x) (hw : Lt Try.prog 105 x.1) : ∃ u : Ed × Sc, cs = edC u.1 u.2 ∧ edR.ok w (low w) u.1 u.2 := by
  obtain ⟨hlen, n, hn, hf⟩ := rd_struct Try.underlying105 h hw
  rw [show Try.prog.cellsOf 105 = 2 by kernel_rfl] at hlen
  obtain ⟨a0, a1, rfl⟩ := list2 hlen
  obtain ⟨y0, g0, w0⟩ := hf 0 _ rfl
  obtain ⟨y1, g1, w1⟩ := hf 1 _ rfl
  change DataW.trod enc Try.prog w 0 spare held n 3 ((List.drop 0 [a0, a1]).take (Try.prog.cellsOf 3)) = some y0 at g0
  change DataW.trod enc Try.prog w 0 spare held n 35 ((List.drop 1 [a0, a1]).take (Try.prog.cellsOf 35)) = some y1 at g1
  rw [show Try.prog.cellsOf 3 = 1 by kernel_rfl] at g0
  rw [show Try.prog.cellsOf 35 = 1 by kernel_rfl] at g1
  obtain ⟨i0, e0, j0⟩ := DataW.trod_int Try.underlying3 g0
  obtain ⟨q1, l1, c1, e1, b1, m1, n1, o1⟩ := ints_rd g1 w1
  have h47 := reach47
  simp [tmC] at e0 e1
  refine ⟨(⟨i0, l1⟩, (q1, c1)), ?_, ⟨wf_i64 j0.2, ⟨m1, b1⟩, n1, o1⟩⟩
  simp [edC, e0, e1]
theorem tm_rd {fuel : Nat} {cs : List Value} {x : DataW H × List MemPlace} (h : DataW.trod enc Try.prog w 0 spare held fuel 39 cs = some x) (hw : Lt Try.prog 39 x.1) : ∃ u : Tm × TmY, cs = tmC u.1 u.2 ∧ TmOk w (low w) u.1 u.2 := by
  obtain ⟨hlen, n, hn, hf⟩ := rd_struct Try.underlying39 h hw
  rw [show Try.prog.cellsOf 39 = 5 by kernel_rfl] at hlen
  obtain ⟨a0, a1, a2, a3, a4, rfl⟩ := list5 hlen
  obtain ⟨y0, g0, w0⟩ := hf 0 _ rfl
  obtain ⟨y1, g1, w1⟩ := hf 1 _ rfl
  obtain ⟨y2, g2, w2⟩ := hf 2 _ rfl
  obtain ⟨y3, g3, w3⟩ := hf 3 _ rfl
  obtain ⟨y4, g4, w4⟩ := hf 4 _ rfl
  change DataW.trod enc Try.prog w 0 spare held n 3 ((List.drop 0 [a0, a1, a2, a3, a4]).take (Try.prog.cellsOf 3)) = some y0 at g0
  change DataW.trod enc Try.prog w 0 spare held n 3 ((List.drop 1 [a0, a1, a2, a3, a4]).take (Try.prog.cellsOf 3)) = some y1 at g1
  change DataW.trod enc Try.prog w 0 spare held n 3 ((List.drop 2 [a0, a1, a2, a3, a4]).take (Try.prog.cellsOf 3)) = some y2 at g2
  change DataW.trod enc Try.prog w 0 spare held n 35 ((List.drop 3 [a0, a1, a2, a3, a4]).take (Try.prog.cellsOf 35)) = some y3 at g3
  change DataW.trod enc Try.prog w 0 spare held n 37 ((List.drop 4 [a0, a1, a2, a3, a4]).take (Try.prog.cellsOf 37)) = some y4 at g4
  rw [show Try.prog.cellsOf 3 = 1 by kernel_rfl] at g0 g1 g2
  rw [show Try.prog.cellsOf 35 = 1 by kernel_rfl] at g3
  rw [show Try.prog.cellsOf 37 = 1 by kernel_rfl] at g4
  obtain ⟨i0, e0, j0⟩ := DataW.trod_int Try.underlying3 g0
  obtain ⟨i1, e1, j1⟩ := DataW.trod_int Try.underlying3 g1
  obtain ⟨i2, e2, j2⟩ := DataW.trod_int Try.underlying3 g2
  obtain ⟨q3, l3, c3, e3, b3, m3, n3, o3⟩ := ints_rd g3 w3
  obtain ⟨q4, l4, c4, e4, b4, m4, n4, o4⟩ := rd_arrL (R := edR) Try.underlying37 (by kernel_rfl) (fun n cs' y _ hy hwy => ed_rd hy hwy) g4 w4
  rw [show Try.prog.bytesOf 105 = 32 by kernel_rfl] at n4
  have h47 := reach47
  simp [tmC] at e0 e1 e2 e3 e4
  refine ⟨(⟨i0, i1, i2, l3, l4.map Prod.fst⟩, ⟨(q3, c3), (q4, c4)⟩), ?_, ⟨wf_i64 j0.2, wf_i64 j1.2, wf_i64 j2.2, m3, by simp only [List.length_map]; omega, b3, by simp only [List.length_map]; exact b4, n3, o3, ⟨l4, rfl, o4⟩⟩⟩
  simp [tmC, e0, e1, e2, e3, e4]
theorem in_rd {fuel : Nat} {cs : List Value} {x : DataW H × List MemPlace} (h : DataW.trod enc Try.prog w 0 spare held fuel 85 cs = some x) (hw : Lt Try.prog 85 x.1) : ∃ u : In × Sc, cs = inC u.1 u.2 ∧ InOk w (low w) u.1 u.2 := by
  obtain ⟨hlen, n, hn, hf⟩ := rd_struct Try.underlying85 h hw
  rw [show Try.prog.cellsOf 85 = 4 by kernel_rfl] at hlen
  obtain ⟨a0, a1, a2, a3, rfl⟩ := list4 hlen
  obtain ⟨y0, g0, w0⟩ := hf 0 _ rfl
  obtain ⟨y1, g1, w1⟩ := hf 1 _ rfl
  obtain ⟨y2, g2, w2⟩ := hf 2 _ rfl
  obtain ⟨y3, g3, w3⟩ := hf 3 _ rfl
  change DataW.trod enc Try.prog w 0 spare held n 3 ((List.drop 0 [a0, a1, a2, a3]).take (Try.prog.cellsOf 3)) = some y0 at g0
  change DataW.trod enc Try.prog w 0 spare held n 3 ((List.drop 1 [a0, a1, a2, a3]).take (Try.prog.cellsOf 3)) = some y1 at g1
  change DataW.trod enc Try.prog w 0 spare held n 3 ((List.drop 2 [a0, a1, a2, a3]).take (Try.prog.cellsOf 3)) = some y2 at g2
  change DataW.trod enc Try.prog w 0 spare held n 35 ((List.drop 3 [a0, a1, a2, a3]).take (Try.prog.cellsOf 35)) = some y3 at g3
  rw [show Try.prog.cellsOf 3 = 1 by kernel_rfl] at g0 g1 g2
  rw [show Try.prog.cellsOf 35 = 1 by kernel_rfl] at g3
  obtain ⟨i0, e0, j0⟩ := DataW.trod_int Try.underlying3 g0
  obtain ⟨i1, e1, j1⟩ := DataW.trod_int Try.underlying3 g1
  obtain ⟨i2, e2, j2⟩ := DataW.trod_int Try.underlying3 g2
  obtain ⟨q3, l3, c3, e3, b3, m3, n3, o3⟩ := ints_rd g3 w3
  have h47 := reach47
  simp [tmC] at e0 e1 e2 e3
  refine ⟨(⟨i0, i1, i2, l3⟩, (q3, c3)), ?_, ⟨wf_i64 j0.2, wf_i64 j1.2, wf_i64 j2.2, m3, b3, n3, o3⟩⟩
  simp [inC, e0, e1, e2, e3]
theorem bk_rd {fuel : Nat} {cs : List Value} {x : DataW H × List MemPlace} (h : DataW.trod enc Try.prog w 0 spare held fuel 41 cs = some x) (hw : Lt Try.prog 41 x.1) : ∃ u : Bk × BkY, cs = bkC u.1 u.2 ∧ BkOk w (low w) u.1 u.2 := by
  obtain ⟨hlen, n, hn, hf⟩ := rd_struct Try.underlying41 h hw
  rw [show Try.prog.cellsOf 41 = 7 by kernel_rfl] at hlen
  obtain ⟨a0, a1, a2, a3, a4, a5, a6, rfl⟩ := list7 hlen
  obtain ⟨y0, g0, w0⟩ := hf 0 _ rfl
  obtain ⟨y1, g1, w1⟩ := hf 1 _ rfl
  obtain ⟨y2, g2, w2⟩ := hf 2 _ rfl
  change DataW.trod enc Try.prog w 0 spare held n 35 ((List.drop 0 [a0, a1, a2, a3, a4, a5, a6]).take (Try.prog.cellsOf 35)) = some y0 at g0
  change DataW.trod enc Try.prog w 0 spare held n 36 ((List.drop 1 [a0, a1, a2, a3, a4, a5, a6]).take (Try.prog.cellsOf 36)) = some y1 at g1
  change DataW.trod enc Try.prog w 0 spare held n 39 ((List.drop 2 [a0, a1, a2, a3, a4, a5, a6]).take (Try.prog.cellsOf 39)) = some y2 at g2
  rw [show Try.prog.cellsOf 35 = 1 by kernel_rfl] at g0
  rw [show Try.prog.cellsOf 36 = 1 by kernel_rfl] at g1
  rw [show Try.prog.cellsOf 39 = 5 by kernel_rfl] at g2
  obtain ⟨q0, l0, c0, e0, b0, m0, n0, o0⟩ := ints_rd g0 w0
  obtain ⟨q1, l1, c1, e1, b1, m1, n1, o1⟩ := rd_arrL (R := inR) Try.underlying36 (by kernel_rfl) (fun n cs' y _ hy hwy => in_rd hy hwy) g1 w1
  rw [show Try.prog.bytesOf 85 = 48 by kernel_rfl] at n1
  obtain ⟨u2, e2, o2⟩ := tm_rd g2 w2
  have h47 := reach47
  simp [tmC] at e0 e1 e2
  refine ⟨(⟨l0, l1.map Prod.fst, u2.1⟩, ⟨(q0, c0), (q1, c1), u2.2⟩), ?_, ⟨m0, by simp only [List.length_map]; omega, b0, by simp only [List.length_map]; exact b1, n0, o0, ⟨l1, rfl, o1⟩, o2⟩⟩
  simp [bkC, e0, e1, e2]
theorem fn_rd {fuel : Nat} {cs : List Value} {x : DataW H × List MemPlace} (h : DataW.trod enc Try.prog w 0 spare held fuel 24 cs = some x) (hw : Lt Try.prog 24 x.1) : ∃ u : Go.Ss.Fn × FnY, cs = fnC u.1 u.2 ∧ FnOk w (low w) u.1 u.2 := by
  obtain ⟨hlen, n, hn, hf⟩ := rd_struct Try.underlying24 h hw
  rw [show Try.prog.cellsOf 24 = 2 by kernel_rfl] at hlen
  obtain ⟨a0, a1, rfl⟩ := list2 hlen
  obtain ⟨y0, g0, w0⟩ := hf 0 _ rfl
  obtain ⟨y1, g1, w1⟩ := hf 1 _ rfl
  change DataW.trod enc Try.prog w 0 spare held n 3 ((List.drop 0 [a0, a1]).take (Try.prog.cellsOf 3)) = some y0 at g0
  change DataW.trod enc Try.prog w 0 spare held n 22 ((List.drop 1 [a0, a1]).take (Try.prog.cellsOf 22)) = some y1 at g1
  rw [show Try.prog.cellsOf 3 = 1 by kernel_rfl] at g0
  rw [show Try.prog.cellsOf 22 = 1 by kernel_rfl] at g1
  obtain ⟨i0, e0, j0⟩ := DataW.trod_int Try.underlying3 g0
  obtain ⟨q1, l1, c1, e1, b1, m1, n1, o1⟩ := rd_arrL (R := bkR) Try.underlying22 (by kernel_rfl) (fun n cs' y _ hy hwy => bk_rd hy hwy) g1 w1
  rw [show Try.prog.bytesOf 41 = 120 by kernel_rfl] at n1
  have h47 := reach47
  simp [tmC] at e0 e1
  refine ⟨(⟨i0, l1.map Prod.fst⟩, ⟨q1, c1⟩), ?_, ⟨wf_i64 j0.2, by simp only [List.length_map]; omega, by simp only [List.length_map]; exact b1, ⟨l1, rfl, o1⟩⟩⟩
  simp [fnC, e0, e1]
end
end Go.Proofs.Ytehelljmaiophaa.ss
