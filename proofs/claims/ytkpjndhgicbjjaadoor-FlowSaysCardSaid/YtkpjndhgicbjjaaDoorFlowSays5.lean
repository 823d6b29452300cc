/- Texts of the proof of FlowSays, part 5: rules of a calculus for walking, plain laws, and walks of the functions that the law reaches. No condition. -/
import Derived.Test.YtkpjndhgicbjjaaDoorFlowSays4
set_option linter.unusedVariables false
set_option linter.unusedSimpArgs false
/- The walk of flow.Of. Conditions: none. -/
namespace Go.Proofs.YtkpjndhgicbjjaaDoor.co
open Go.RowKit Go.Eng Go.Co
set_option maxRecDepth 100000
structure Least (e : List Ex) (R : FR) : Prop where
 closed : FClosed e.length (rowsN e) (ixF e) e R
 on : hB R (e.length + 1) e.length = true
 least : ∀ C, FClosed e.length (rowsN e) (ixF e) e C → hB C (e.length + 1) e.length = true → FLe R C
structure IS where
 xs : List Int
 other : Bool
 O : Nat → Prop
 q : Option Addr
 cap : Nat
def isF (R : FR) (p n g : Nat) (x : IS) : Prop := x.xs = fnsF R p g n ∧ x.other = (decide (n < g) && hB R p n)
theorem isF_skip {R : FR} {p n g : Nat} {x : IS} (h : (R.getD p []).getD g false = false) (hx : isF R p n g x) : isF R p n (g + 1) x := by
 have hb : hB R p g = false := h
 refine ⟨by rw [fnsF_no hb]; exact hx.1, ?_⟩
 rw [hx.2]
 by_cases h1 : n = g
 ·subst h1
  simp [hb]
 ·congr 1
  exact decide_eq_decide.2 (by omega)
theorem bag_cells {e : List Ex} {y : FY} {s : FS} {H : List Eng.Item} {S : List World} {w : World} (hc : Cls H S w) (hm : bag y.B (setsI 67 y.N.length s.R (s.P e y)) ∈ H) {k b : Nat} (hk : (k, b) ∈ s.P e y) : CellsAt w ⟨b, 0, none⟩ (u64s (wordsB y.N.length (s.R.getD k []))) := by
 have h1 := (hc.holds _ hm).1 (setI 67 y.N.length s.R (k, b)) (List.mem_map.2 ⟨(k, b), hk, rfl⟩)
 intro j v hj
 rw [add_mid, blk_cell h1.1, Nat.zero_add]
 exact hj
structure OS where
 i : Nat
 Ds : List Nat
 O : Nat → Prop
 q : Option Addr
 cap : Nat
 O2 : Nat → Prop
 L : List (FCall × Sc)
def ofI (B : Nat) (g : OS) (H : List Eng.Item) : List Eng.Item := mks B g.Ds :: row B g.O g.q g.L.length g.cap 35 3 (cat flR.c g.L) :: pool flR B g.O2 g.L :: H
theorem Of_calls (es : List (Ex × ExY)) (e : List Ex) (hee : es.map Prod.fst = e) (q : Option Addr) (cap : Nat) (s0 : World) (he : Arr exR s0 (low s0) es q) (hlen : es.length ≤ 9223372036854775807)
  (hg : 1 < s0.heap.size) (hs : arityAt s0) (hT : tzAt s0) (hTg : 0 < s0.heap.size) :
  Calls Tryd.prog 8 [.slice q es.length cap].toArray s0 fun r w' => ∃ q' cap' L, r = .returned (.tuple #[.slice q' L.length cap', .int .i64 (bodyE e [] false)]) ∧ Ext s0 w' ∧ Arr flR w' (fresh s0 w') L q' ∧ (bodyE e [] false ≠ 0 → L = []) ∧
   (bodyE e [] false = 0 → ∃ R, Least e R ∧ L.map Prod.fst = outF e R e.length) := by
 have hel : e.length = es.length := by rw [← hee, List.length_map]
 refine enterM Tryd.func8 rfl Tryd.ntmps8 rfl (Cls.start s0) ?_
 (simp only [argEnv, Nat.zero_add, Nat.reduceAdd])
 apply W.sr
 apply OL.box; rfl; rfl; exact CellsL.one rfl; (intro bk hbk; simp only [AllLe, and_true] at hbk)
 apply oas; rfl; rfl
 apply oas; rfl; rfl
 apply OL.nx
 apply W.seq
 apply W.sr
 apply old; rfl; rfl; exact .head _; rfl; rfl
 (((first | (with_reducible apply OL.op) | (with_reducible apply QL.op)); (exact Guard.au); rfl; rfl); (exact Pev.call (v := .int .i64 (bodyE e [] false)) rfl (by exact Args.au) (fun _ w2 hw2 => (Check_calls es q cap w2 (he.at hw2 (by exact mau) (fun k hk => by exact NotOwned.au)) hlen (Nat.lt_of_lt_of_le hg (hw2.kp s0 (by exact mau)).size) (hs.at hg hw2 (by exact mau) (fun k hk => by exact NotOwned.au))).mono (fun e1 w3 h => ⟨by rw [h.1, hee], hw2.ext h.2⟩))))
 apply oas; rfl; rfl
 apply OL.nsr
 apply omv; rfl; rfl
 apply obn; rfl; rfl; rfl; apply Bin.neq
 apply OL.nx
 (refine W.cnd (fun herr => ?_) (fun herr => ?_)) <;> (try (exfalso; first | omega | exact herr trivial | contradiction))
 ·apply W.sr
  apply omv; rfl; rfl
  apply oas; rfl; rfl
  apply oas; rfl; rfl
  apply OL.nx
  refine W.rt ?_
  refine At.finM0 (results2 rfl rfl rfl) (fun w' hw' => ⟨none, 0, [], rfl, by (exact hw'.fr), Arr.nil, fun _ => rfl, fun h => absurd h herr⟩)
 ·have hF : FOk e := FOk.of herr
  apply W.sk
  apply W.sr
  apply old; rfl; rfl; exact .head _; rfl; rfl
  refine OL.callE (α := FY × FS) (fun z => .pointer (some ⟨z.1.bs, 0, none⟩)) (fun z => z.1.qe = q ∧ FYOk e z.1 ∧ FSOk e z.1 z.2 ∧ s0.heap.size ≤ z.1.B ∧ s0.heap.size ≤ z.1.bs ∧ s0.heap.size ≤ z.1.bm ∧ Least e z.2.R) (fun z => Cls (flI e z.1 z.2 [] ++ [blk bk 22 [.slice q es.length cap]]) [s0]) rfl rfl (by exact Args.au) (fun w2 hw2 => ?_) ?_
  ·have hsz := (hw2.kp s0 (.head _)).size
   refine (solve_calls es e hee hF q cap w2 (he.at hw2 (by exact mau) (fun k hk => by exact NotOwned.au)) (hT.at hTg hw2 (by exact mau) (fun k hk => by exact NotOwned.au)) (by omega) (op_pos herr)).mono ?_
   rintro r w3 ⟨y, s, h1, h2, h3, h4, h5, h6, h7, h8, h9, h10, h11⟩
   refine ⟨(y, s), h1, ⟨h2, h3, h4, by simp only; omega, by simp only; omega, by simp only; omega, ⟨h8, h9, h10⟩⟩, hw2.over h11 (fun i hi k ho => ?_)⟩
   simp only [flI, List.mem_cons, List.not_mem_nil, or_false] at hi
   rcases hi with rfl | rfl | rfl | rfl
   ·rw [show k = y.bs from ho]; exact h6
   ·rw [show k = y.bm from ho]; exact h7
   ·have := ho.1; omega
   ·have := ho.1; omega
  rintro ⟨y, s⟩ ⟨hyq, hyO, hsO, hyB, hbs, hbm, hL⟩
  simp only at hyq hyO hsO hyB hbs hbm hL ⊢
  apply oas; rfl; rfl
  apply OL.nsr
  apply oas; rfl; rfl
  apply OL.nx
  apply W.seq
  apply W.sr
  apply old; rfl; rfl; apply List.Mem.tail; apply List.Mem.tail; exact .tail _ (.tail _ (.head _)); rfl; rfl
  apply oop; rfl; apply Pev.len_slice; rfl; exact yes; rfl
  apply omv; rfl; rfl
  apply OL.nx
  apply W.block
  obtain ⟨b1, hb1⟩ : ∃ b1, b1 = bk := ⟨_, rfl⟩
  rw [← hb1] at hbk ⊢
  clear hb1
  refine W.loopM (G := OS) (fun g => g.i ≤ e.length ∧ g.L.map Prod.fst = outF e s.R g.i ∧ ∀ D ∈ g.Ds, s0.heap.size ≤ D) (fun g => e.length - g.i) (fun g => ⟨59, g.Ds.map dMark, none⟩)
   (fun g => [(1, true, .pointer (some ⟨b1, 0, none⟩)), (5, true, .pointer (some ⟨y.bs, 0, none⟩)), (6, true, .slice g.q g.L.length g.cap), (18, true, .slice q es.length cap), (19, true, .int .i64 (es.length : Int)), (20, true, .int .i64 (g.i : Int))])
   (fun g => Cls (ofI s0.heap.size g (blk b1 22 [.slice q es.length cap] :: flI e y s [])) [s0]) ⟨0, [], fun _ => False, none, 0, fun _ => False, []⟩ rfl (fun g => rfl) ⟨Nat.zero_le _, rfl, fun D hD => by cases hD⟩ (by exact Sub.au) (fun w' hw' => ?_) ?_
  ·have h1 : Cls (blk b1 22 [.slice q es.length cap] :: flI e y s []) [s0] w' := hw'.perm (List.perm_append_comm (l₁ := flI e y s []) (l₂ := [_]))
   exact ((h1.pool_nil flR s0.heap.size).row_nil s0.heap.size 35 3).mks_nil s0.heap.size
  rintro ⟨i, Ds, O, q1, cap1, O2, L⟩ ⟨hi, hLL, hDs⟩
  simp only at hi hLL hDs ⊢
  have hLn : L.length ≤ i := by
   have h1 := outF_len e s.R i
   rw [← hLL, List.length_map] at h1
   exact h1
  simp only [ofI]
  apply W.sr
  apply obn; rfl; rfl; rfl; apply Bin.lss
  apply OL.nx
  apply W.seq
  (refine W.cnd (fun hlt => ?_) (fun hlt => ?_)) <;> (try (exfalso; first | omega | exact hlt trivial | contradiction))
  ·obtain ⟨a, p, hqa, hab, hp, hcell, hok⟩ := he.get (show i < es.length by omega)
   have hab : a.block < s0.heap.size := hab
   have hcell : CellsAt s0 (a.add (i * 5)) [.int .i64 p.1.op, .int .i64 p.1.n, .slice p.2.b.1 p.1.binds.length p.2.b.2, .slice p.2.k.1 p.1.kids.length p.2.k.2, .slice p.2.a.1 p.1.alts.length p.2.a.2] := hcell
   have hx : e[i]? = some p.1 := by rw [← hee, List.getElem?_map, hp]; rfl
   have hno : ∀ k, k < s0.heap.size → NotOwned (mks s0.heap.size Ds :: row s0.heap.size O q1 L.length cap1 35 3 (cat flR.c L) :: pool flR s0.heap.size O2 L :: blk b1 22 [.slice (some a) es.length cap] :: flI e y s []) k := fun k hk => NotOwned.mks (fun hm => by have := hDs k hm; omega) (NotOwned.row (by omega) (NotOwned.pool (by omega) (NotOwned.blk (by omega) (flI_no hyB hbs hbm (fun k hk => .nil) k hk))))
   rw [hqa]
   apply W.sk
   apply W.sb
   apply W.sr
   apply omv; rfl; rfl
   apply oop; rfl; apply Pev.idx; rfl; exact yes; rfl; exact yes; rfl; rfl; intro hcond; omega
   apply oop; rfl; apply Pev.load_keptA; rfl; exact yes; exact .head _; rfl; intro hcond; assumption; rfl; intro hcond; (rw [add_block]; assumption); intro hcond; exact NotOwned.au
   apply OL.alloc; rfl; rfl; exact CellsL.agg; (intro bk hbk; simp only [AllLe, and_true] at hbk)
   apply oas; rfl; rfl
   apply OL.storeB; rfl; rfl; exact CellsL.agg; rfl; rfl; rfl; exact Swap.au; exact Put.au
   apply OL.nx
   apply W.seq
   apply W.sr
   apply ofa; rfl; rfl; rfl
   apply old; rfl; rfl; exact .head _; rfl; rfl
   apply obn; rfl; rfl; rfl; apply Bin.neq
   apply OL.nx
   (refine W.cnd (fun ho => ?_) (fun ho => ?_)) <;> (try (exfalso; first | omega | exact ho trivial | contradiction))
   ·refine W.xt ?_
    with_reducible apply At.next
    apply W.reg
    apply obn; rfl; rfl; rfl; apply Bin.add_in; omega
    apply omv; rfl; rfl
    apply OL.nil
    refine At.againM ⟨i + 1, Ds, O, q1, cap1, O2, L⟩ rfl ⟨(show i + 1 ≤ e.length by omega), by rw [outF_skip hx ho]; exact hLL, hDs⟩ (show e.length - (i + 1) < e.length - i by omega) (by exact Sub.au) (fun w' hw' => ?_)
    exact hw'.thin (.any (fun k hk => by rw [show k = bk from hk]; exact ⟨hbk, trivial⟩) .same)
   ·have ho3 : p.1.op = 3 := by omega
    have hsh := hF.sh i p.1 hx
    have hk1 := hsh.app ho3
    have hn := hyO.len
    have hl4 := hF.len
    obtain ⟨ak, uk, hqk, habk, huk, hcellk⟩ := hok.k.get (show 0 < p.1.kids.length by omega)
    obtain ⟨hk0, hke⟩ := hF.kid hx (k := 0) (by omega)
    have hu : uk = (kidN p.1 0 : Int) := Option.some.inj (huk.symm.trans hke)
    subst hu
    have habk : ak.block < s0.heap.size := habk
    have hcellk : s0.cell? (ak.add (0 * 1)) = some (.int .i64 (kidN p.1 0 : Int)) := hcellk
    obtain ⟨k1, hk1'⟩ : ∃ k1, kidN p.1 0 = k1 := ⟨_, rfl⟩
    rw [hk1'] at hcellk hk0
    obtain ⟨bk1, hbk1⟩ : ∃ b, y.N[k1]? = some b := ⟨y.N[k1], List.getElem?_eq_getElem (by omega)⟩
    have hrow : (y.N.map (slW y.N.length))[0 + (k1 : Int).toNat * 1]? = some (slW y.N.length bk1) := by
     rw [show 0 + (k1 : Int).toNat * 1 = k1 by omega, List.getElem?_map, hbk1]
     rfl
    rw [hqk]
    unfold flI FY.c
    revert hbk
    revert bk
    intro b8 hb8
    apply W.sk
    apply W.sr
    apply omv; rfl; rfl
    apply oop; rfl; apply Pev.build; rfl; exact CellsL.agg; rfl; exact Fill.au; rfl
    apply OL.alloc; rfl; rfl; exact CellsL.agg; (intro bk hbk; simp only [AllLe, and_true] at hbk)
    apply OL.storeB; rfl; rfl; exact CellsL.agg; rfl; rfl; rfl; exact Swap.au; exact Put.au
    apply OL.nx
    apply W.seq
    apply W.seq
    apply W.regd0; decide +kernel; kernel_rfl; decide +kernel; exact fun w hw => hw.drew
    apply qmv; rfl; rfl
    apply qop; rfl; apply Pev.nil_ptr; rfl; exact yes
    apply qfa; rfl; rfl; rfl
    apply qld; rfl; rfl; apply List.Mem.tail; apply List.Mem.tail; apply List.Mem.tail; apply List.Mem.tail; exact .tail _ (.tail _ (.head _)); rfl; rfl
    apply qfa; rfl; rfl; rfl
    apply qld; rfl; rfl; exact .tail _ (.head _); rfl; rfl
    apply qop; rfl; apply Pev.idx; rfl; exact yes; rfl; exact yes; rfl; rfl; intro hcond; (simp only [Bool.and_eq_true, Bool.or_eq_true, Bool.not_eq_true', decide_eq_true_eq, decide_eq_false_iff_not] at *; omega)
    apply qop; rfl; apply Pev.load_kept; rfl; exact yes; exact .head _; rfl; intro hcond; assumption; intro hcond; assumption; intro hcond; exact NotOwned.au
    apply qop; rfl; apply Pev.idxB; rfl; exact yes; rfl; exact yes; rfl; intro hcond; omega; rfl
    apply qop; rfl; apply Pev.load_row; rfl; exact yes; apply List.Mem.tail; apply List.Mem.tail; apply List.Mem.tail; apply List.Mem.tail; apply List.Mem.tail; apply List.Mem.tail; apply List.Mem.tail; exact .tail _ (.tail _ (.head _)); rfl; assumption
    apply qop; rfl; apply Pev.makeFunc; exact Args.au; exact Args.au
    apply QL.nil
    with_reducible apply At.next
    apply W.block
    revert hbk
    revert bk
    intro b9 hb9
    obtain ⟨RS, hRS⟩ : ∃ RS : List Eng.Item, RS = blk b8 43 [.int .i64 p.1.op, .int .i64 p.1.n, .slice p.2.b.1 p.1.binds.length p.2.b.2, .slice (some ak) p.1.kids.length p.2.k.2, .slice p.2.a.1 p.1.alts.length p.2.a.2] :: mks s0.heap.size Ds :: row s0.heap.size O q1 L.length cap1 35 3 (cat flR.c L) :: pool flR s0.heap.size O2 L :: flI e y s [] := ⟨_, rfl⟩
    refine W.range (ps := [41]) (gf := 16) (first := [slW y.N.length bk1]) (cap := []) (σ := IS) (S := [s0]) (fun x => blk b9 35 [.int .i64 (i : Int), .slice x.q x.xs.length x.cap, .bool x.other] :: row s0.heap.size x.O x.q x.xs.length x.cap 3 1 (ints x.xs) :: blk b1 22 [.slice (some a) es.length cap] :: RS)
     (allA (s.R.getD k1 []) (isF s.R k1 y.N.length)) (allB (isF s.R k1 y.N.length)) (fun x => isF s.R k1 y.N.length (64 * (y.N.length / 64 + 1)) x) (fun _ _ => False) ⟨[], false, fun _ => False, none, 0⟩ rfl rfl (fun p hp => by rw [List.mem_singleton.1 hp]; rfl) (by kernel_rfl) (fun w' hw' => ?_) (fun x vs hA => ?_) (fun w' hw' => ?_) ?_ ?_ ?_
    ·rw [hRS]
     exact ((hw'.row_nil s0.heap.size 3 1).flip).perm (List.Perm.cons _ (List.Perm.cons _ ((List.perm_append_comm (l₁ := [_, _, _, _]) (l₂ := [_])).append_right _)))
    ·obtain ⟨g, rfl, _⟩ := hA
     rfl
    ·refine all_iter bk1 _ y.N.length (by omega) (s.R.getD k1 []) _ [s0] (isF s.R k1 y.N.length) (fun x w hw => ?_) (fun x w _ hw => ?_) (fun g x h hx => isF_skip h hx) _ ⟨(fnsF_zero _ _ _).symm, (show false = _ by simp)⟩
     ·refine hT.at hTg hw (.head _) (fun k hk => ?_)
      rw [hRS]
      exact NotOwned.blk (by omega) (NotOwned.row (by omega) (NotOwned.blk (by omega) (NotOwned.blk (by omega) (NotOwned.mks (fun hm => by have := hDs k hm; omega) (NotOwned.row (by omega) (NotOwned.pool (by omega) (flI_no hyB hbs hbm (fun k hk => .nil) k hk)))))))
     ·rw [hRS] at hw
      exact bag_cells (e := e) (s := s) hw (by simp [flI]) (P_node hbk1)
    ·rintro lp D rc x vs hlp hD ⟨g, rfl, hgb, hxs, hxo⟩
     have hlp0 : s0.heap.size ≤ lp := hlp.1
     have hD0 : s0.heap.size ≤ D := hD.1
     have hxl : x.xs.length ≤ 4096 := by
      have := fnsF_len s.R k1 g y.N.length
      rw [← hxs] at this
      omega
     simp only [zipE]
     apply W.reg
     apply oas; rfl; rfl
     apply OL.nil
     refine At.begin (by exact Hole.au) ?_
     apply W.block
     apply W.sr
     apply omv; rfl; rfl
     apply old; rfl; rfl; apply List.Mem.tail; apply List.Mem.tail; exact .tail _ (.tail _ (.head _)); rfl; rfl
     apply oop; rfl; apply Pev.len_slice; rfl; exact yes; rfl
     apply obn; rfl; rfl; rfl; apply Bin.eql
     apply OL.nx
     (refine W.cnd (fun hgn => ?_) (fun hgn => ?_)) <;> (try (exfalso; first | omega | exact hgn trivial | contradiction))
     ·apply W.reg
      apply ofa; rfl; rfl; rfl
      apply OL.storeB; rfl; rfl; exact CellsL.one rfl; rfl; rfl; rfl; exact Swap.au; exact Put.au
      apply OL.nil
      with_reducible apply At.in_normal
      refine At.round (by exact Hole.au) (fun w' hw' => .inl ⟨⟨x.xs, true, x.O, x.q, x.cap⟩, rfl, ⟨g, rfl, ?_, ?_⟩, hw'⟩)
      ·rw [fnsF_out (by omega)]
       rw [fnsF_out (by omega)] at hxs
       exact hxs
      ·have : g = y.N.length := by omega
       subst this
       have hgb' : hB s.R k1 y.N.length = true := hgb
       simp [hgb']
     ·have hgl : g < y.N.length := by
       have h1 := hgb
       have h2 := hsO.lam k1 g hgb
       rcases h2 with h2 | ⟨z, hz, _⟩
       ·omega
       ·have := (List.getElem?_eq_some_iff.1 hz).1
        omega
      apply W.reg
      apply ofa; rfl; rfl; rfl
      apply old; rfl; rfl; exact .tail _ (.tail _ (.head _)); rfl; rfl
      apply omv; rfl; rfl
      apply OL.buildSlice; rfl; rfl; rfl; exact Elems.au; rfl; rfl; (intro bk hbk; simp only [AllLe, and_true] at hbk)
      apply OL.append; rfl; rfl; rfl; rfl; exact Hole.au; exact .head _; exact Take.au; rfl; rfl; exact ⟨_, .head _, Nat.le_refl _⟩; omega; intro O1 g1 cap1
      apply ofa; rfl; rfl; rfl
      apply OL.storeB; rfl; rfl; exact CellsL.one rfl; rfl; rfl; rfl; exact Swap.au; exact Put.au
      apply OL.nil
      with_reducible apply At.in_normal
      refine At.round (by exact Hole.au) (fun w' hw' => .inl ⟨⟨x.xs ++ [(g : Int)], x.other, O1, some ⟨g1, 0, none⟩, cap1⟩, rfl, ⟨g, rfl, ?_, ?_⟩, ?_⟩)
      ·show x.xs ++ [(g : Int)] = _
       rw [fnsF_yes hgl hgb, hxs]
      ·show x.other = _
       rw [hxo, show decide (y.N.length < g) = false by simp; omega, show decide (y.N.length < g + 1) = false by simp; omega]
      ·have h1 := hw'.thin (.any (fun k hk => by rw [show k = bk from hk]; exact ⟨hbk, trivial⟩) .same)
       simpa [ints] using h1
    ·intro D x hD hE
     have hD0 : s0.heap.size ≤ D := hD.1
     obtain ⟨hxs, hxo⟩ := hE
     rw [fnsF_out (by omega)] at hxs
     rw [show decide (y.N.length < 64 * (y.N.length / 64 + 1)) = true by simp; omega, Bool.true_and] at hxo
     rw [hRS]
     with_reducible apply At.in_normal
     with_reducible apply At.next
     apply W.reg
     apply omv; rfl; rfl
     apply oop; rfl; apply Pev.load_blkA; rfl; exact yes; exact .tail _ (.head _); rfl; exact Take.au
     apply OL.buildSlice; rfl; rfl; rfl; exact Elems.au; rfl; rfl; (intro bk hbk; simp only [AllLe, and_true] at hbk)
     apply OL.append; rfl; rfl; rfl; rfl; exact Hole.au; exact .head _; exact Take.au; rfl; rfl; exact ⟨_, .head _, Nat.le_refl _⟩; omega; intro O1 g1 cap1
     apply oas; rfl; rfl
     apply OL.nil
     with_reducible apply At.in_normal
     with_reducible apply At.next
     apply W.reg
     apply obn; rfl; rfl; rfl; apply Bin.add_in; omega
     apply omv; rfl; rfl
     apply OL.nil
     refine At.againM ⟨i + 1, D :: Ds, O1, some ⟨g1, 0, none⟩, cap1, fun k => x.O k ∨ O2 k, L ++ [(callF e s.R i p.1, (x.q, x.cap))]⟩ rfl ⟨(show i + 1 ≤ e.length by omega), ?_, fun E hE => ?_⟩ (show e.length - (i + 1) < e.length - i by omega) ?_ (fun w' hw' => ?_)
     ·show (L ++ [(callF e s.R i p.1, (x.q, x.cap))]).map Prod.fst = outF e s.R (i + 1)
      rw [outF_app hx ho3, List.map_append, hLL]
      rfl
     ·rcases List.mem_cons.1 hE with rfl | hE
      ·exact hD0
      ·exact hDs E hE
     ·simp only [List.length_append, List.length_singleton]
      exact Sub.au
     ·have hcl : callF e s.R i p.1 = ⟨i, x.xs, x.other⟩ := by
       unfold callF
       rw [hk1', hxs, hxo, hn]
      have h1 : Cls (mkI D :: row s0.heap.size x.O x.q x.xs.length x.cap 3 1 (ints x.xs) :: blk b1 22 [.slice (some a) es.length cap] :: mks s0.heap.size Ds :: row s0.heap.size O1 (some ⟨g1, 0, none⟩) (L.length + 1) cap1 35 3 (cat flR.c L ++ [.int .i64 (i : Int), .slice x.q x.xs.length x.cap, .bool x.other]) :: pool flR s0.heap.size O2 L :: flI e y s []) [s0] w' :=
       hw'.thin (.any (fun k hk => by rw [show k = bk from hk]; exact ⟨hbk, trivial⟩) (.keep (.any (fun k hk => by rw [show k = b9 from hk]; exact ⟨hb9, trivial⟩) (.keep (.keep (.any (fun k hk => by rw [show k = b8 from hk]; exact ⟨hb8, trivial⟩) .same))))))
      have h2 : Cls (mkI D :: mks s0.heap.size Ds :: row s0.heap.size x.O x.q x.xs.length x.cap 3 1 (ints x.xs) :: blk b1 22 [.slice (some a) es.length cap] :: row s0.heap.size O1 (some ⟨g1, 0, none⟩) (L.length + 1) cap1 35 3 (cat flR.c L ++ [.int .i64 (i : Int), .slice x.q x.xs.length x.cap, .bool x.other]) :: pool flR s0.heap.size O2 L :: flI e y s []) [s0] w' :=
       h1.perm (List.Perm.cons _ ((List.perm_append_comm (l₁ := [_, _]) (l₂ := [_])).append_right _))
      have h3 := h2.mks_in hD0
      have h4 : Cls (row s0.heap.size x.O x.q x.xs.length x.cap 3 1 (ints x.xs) :: pool flR s0.heap.size O2 L :: mks s0.heap.size (D :: Ds) :: row s0.heap.size O1 (some ⟨g1, 0, none⟩) (L.length + 1) cap1 35 3 (cat flR.c L ++ [.int .i64 (i : Int), .slice x.q x.xs.length x.cap, .bool x.other]) :: blk b1 22 [.slice (some a) es.length cap] :: flI e y s []) [s0] w' :=
       h3.perm ((List.Perm.swap _ _ _).trans (List.Perm.cons _ (((List.perm_append_comm (l₁ := [_, _, _]) (l₂ := [_])).append_right _).trans (List.Perm.cons _ (List.Perm.cons _ (List.Perm.swap _ _ _))))))
      have h5 := h4.pool_row (R := flR) (x := callF e s.R i p.1) (y := (x.q, x.cap)) (fun hx1 => ?_)
      ·have h6 : Cls (mks s0.heap.size (D :: Ds) :: row s0.heap.size O1 (some ⟨g1, 0, none⟩) (L.length + 1) cap1 35 3 (cat flR.c L ++ [.int .i64 (i : Int), .slice x.q x.xs.length x.cap, .bool x.other]) :: pool flR s0.heap.size (fun k => x.O k ∨ O2 k) (L ++ [(callF e s.R i p.1, (x.q, x.cap))]) :: blk b1 22 [.slice (some a) es.length cap] :: flI e y s []) [s0] w' :=
        h5.perm ((List.perm_append_comm (l₁ := [_]) (l₂ := [_, _])).append_right _)
       have e5 : cat flR.c (L ++ [(callF e s.R i p.1, (x.q, x.cap))]) = cat flR.c L ++ [.int .i64 (i : Int), .slice x.q x.xs.length x.cap, .bool x.other] := by
        rw [cat_append, hcl]
        simp [cat, Rel.c, flR, flCells]
       simp only [ofI, e5, List.length_append, List.length_singleton]
       exact h6
      ·rw [hcl]
       have hxl : x.xs.length ≤ 4096 := by
        have := fnsF_len s.R k1 y.N.length y.N.length
        rw [← hxs] at this
        omega
       refine ⟨by simp only [I64]; omega, fun z hz => ?_, (show x.xs.length ≤ 1048576 by omega), fun hl => ?_⟩
       ·have hz : z ∈ x.xs := hz
        rw [hxs] at hz
        unfold fnsF at hz
        obtain ⟨g, hg1, rfl⟩ := List.mem_map.1 hz
        have := List.mem_range.1 (List.mem_filter.1 hg1).1
        simp only [I64]
        omega
       ·rcases hx1 with ⟨a1, h7, h8, h9⟩ | h7
        ·exact ⟨a1, h7, ⟨h8.1, .inl h8.2⟩, h9⟩
        ·have : x.xs = [] := by simpa [ints] using h7
         have hl : 0 < x.xs.length := hl
         rw [this] at hl
         cases hl
    ·intro D c x _ h
     exact h.elim
  ·obtain rfl : i = e.length := by omega
   refine W.xt ?_
   with_reducible apply At.next
   apply W.sr
   apply omv; rfl; rfl
   apply oas; rfl; rfl
   apply oas; rfl; rfl
   apply OL.nx
   apply W.ret
   refine At.finM (p := 0) (B := s0.heap.size) .z (results2 rfl rfl rfl) (fun w' hw' => ⟨q1, cap1, L, by rw [herr], ?_, ?_, fun h => absurd herr h, fun _ => ⟨s.R, hL, hLL⟩⟩)
   ·refine ⟨(hw'.kp s0 (.head _)).os, (hw'.kp s0 (.head _)).tape, (hw'.kp s0 (.head _)).output, (hw'.kp s0 (.head _)).size, fun k hk _ => (hw'.kp s0 (.head _)).block k hk ?_⟩
    exact NotOwned.not (NotOwned.any (fun hm => by have := hDs k hm; omega) (NotOwned.row (by omega) (NotOwned.pool (by omega) (NotOwned.blk (by omega) (flI_no hyB hbs hbm (fun k hk => .nil) k hk)))))
   ·exact hw'.arrF (B := s0.heap.size) (m := L.length) (cap := cap1) (O1 := O) (O2 := O2) (e := 35) (.tail _ (.head _)) (.tail _ (.tail _ (.head _))) (Nat.le_refl _)
end Go.Proofs.YtkpjndhgicbjjaaDoor.co

/- The walk of slices.Equal at []int. Conditions: none. -/
namespace Go.Proofs.YtkpjndhgicbjjaaDoor.co
open Go.RowKit Go.Eng Go.Co
set_option maxRecDepth 100000
theorem IEqual_calls (q1 q2 : Option Addr) (cap1 cap2 : Nat) (l1 l2 : List Int) (w : World) (hl1 : l1.length ≤ 9223372036854775807) (hl2 : l2.length ≤ 9223372036854775807) (h1 : IntsO w (low w) l1 q1) (h2 : IntsO w (low w) l2 q2) :
  Calls Tryd.prog 17 #[.slice q1 l1.length cap1, .slice q2 l2.length cap2] w fun e w' => e = .returned (.bool (decide (l1 = l2))) ∧ Ext w w' := by
 refine enter Tryd.func17 rfl Tryd.ntmps17 rfl (Cls.start w) ?_
 (simp only [argEnv, Nat.zero_add, Nat.reduceAdd])
 apply W.sr
 apply oas; rfl; rfl
 apply OL.nx
 apply W.seq
 apply W.sr
 apply omv; rfl; rfl
 apply oop; rfl; apply Pev.len_slice; rfl; exact yes; rfl
 apply omv; rfl; rfl
 apply oop; rfl; apply Pev.len_slice; rfl; exact yes; rfl
 apply obn; rfl; rfl; rfl; apply Bin.neq
 apply OL.nx
 (refine W.cnd (fun hne => ?_) (fun hne => ?_)) <;> (try (exfalso; first | omega | exact hne trivial | contradiction))
 ·apply W.sr
  apply oas; rfl; rfl
  apply OL.nx
  refine W.rt ?_
  ((with_reducible apply At.fin1); rfl; rfl; intro w' hw')
  have : ¬ l1 = l2 := fun e => by subst e; exact hne rfl
  exact ⟨by simp [this], by (exact hw'.fr)⟩
 apply W.sk
 apply W.seq
 apply W.sr
 apply omv; rfl; rfl
 apply oop; rfl; apply Pev.len_slice; rfl; exact yes; rfl
 apply omv; rfl; rfl
 apply OL.nx
 apply W.block
 refine W.loop (G := Nat) (fun i => i ≤ l1.length ∧ ∀ j, j < i → l1[j]? = l2[j]?) (fun i => l1.length - i)
  (fun i => [(13, true, .int .i64 (i : Int)), (12, true, .int .i64 (l1.length : Int)), (0, true, .slice q1 l1.length cap1), (1, true, .slice q2 l2.length cap2)])
  (fun i => Cls [] [w]) 0 ⟨by omega, fun j hj => by omega⟩ (by exact Sub.au) (fun w' hw' => hw') ?_
 rintro i ⟨hi, hsame⟩
 apply W.sr
 apply obn; rfl; rfl; rfl; apply Bin.lss
 apply OL.nx
 apply W.seq
 (refine W.cnd (fun hlt => ?_) (fun hlt => ?_)) <;> (try (exfalso; first | omega | exact hlt trivial | contradiction))
 ·obtain ⟨a, u, rfl, hab, hu, hcell⟩ := h1.get (show i < l1.length by omega)
  obtain ⟨a2, u2, rfl, hab2, hu2, hcell2⟩ := h2.get (show i < l2.length by omega)
  have hab : a.block < w.heap.size := hab
  have hab2 : a2.block < w.heap.size := hab2
  apply W.sk
  apply W.sb
  apply W.sr
  apply omv; rfl; rfl
  apply oas; rfl; rfl
  apply OL.nx
  apply W.seq
  apply W.regd0; decide +kernel; kernel_rfl; decide +kernel; exact fun w hw => hw.drew
  apply qmv; rfl; rfl
  apply qmv; rfl; rfl
  apply qop; rfl; apply Pev.idx; rfl; exact yes; rfl; exact yes; rfl; rfl; intro hcond; omega
  apply qop; rfl; apply Pev.load_kept; rfl; exact yes; exact .head _; rfl; intro hcond; assumption; intro hcond; (rw [add_block]; assumption); intro hcond; exact NotOwned.au
  apply qmv; rfl; rfl
  apply qmv; rfl; rfl
  apply qop; rfl; apply Pev.idx; rfl; exact yes; rfl; exact yes; rfl; rfl; intro hcond; omega
  apply qop; rfl; apply Pev.load_kept; rfl; exact yes; exact .head _; rfl; intro hcond; assumption; intro hcond; (rw [add_block]; assumption); intro hcond; exact NotOwned.au
  apply qbn; rfl; rfl; rfl; apply Bin.neq
  apply QL.nil
  with_reducible apply At.next
  (refine W.cnd (fun hd => ?_) (fun hd => ?_)) <;> (try (exfalso; first | omega | exact hd trivial | contradiction))
  ·apply W.sr
   apply oas; rfl; rfl
   apply OL.nx
   refine W.rt ?_
   ((with_reducible apply At.fin1); rfl; rfl; intro w' hw')
   have : ¬ l1 = l2 := fun e => by
    subst e
    rw [hu] at hu2
    exact hd (Option.some.inj hu2)
   exact ⟨by simp [this], by (exact hw'.fr)⟩
  ·apply W.skip
   with_reducible apply At.in_normal
   with_reducible apply At.next
   apply W.reg
   apply obn; rfl; rfl; rfl; apply Bin.add_in; omega
   apply omv; rfl; rfl
   apply OL.nil
   refine At.again (i + 1) ⟨by omega, fun j hj => ?_⟩ (by omega) (by exact Sub.au) (fun w' hw' => hw')
   by_cases hji : j = i
   ·subst hji
    rw [hu, hu2, show u = u2 by first | omega | (simpa using hd)]
   ·exact hsame j (by omega)
 ·refine W.xt ?_
  with_reducible apply At.next
  apply W.sr
  apply oas; rfl; rfl
  apply OL.nx
  apply W.ret
  ((with_reducible apply At.fin1); rfl; rfl; intro w' hw')
  have : l1 = l2 := List.ext_getElem? fun j => by
   rcases Nat.lt_or_ge j l1.length with h | h
   ·exact hsame j (by omega)
   ·rw [List.getElem?_eq_none h, List.getElem?_eq_none (by omega)]
  exact ⟨by simp [this], by (exact hw'.fr)⟩
end Go.Proofs.YtkpjndhgicbjjaaDoor.co

/- The walk of slices.EqualFunc at equal lists of calls. Conditions: none. -/
namespace Go.Proofs.YtkpjndhgicbjjaaDoor.co
open Go.RowKit Go.Eng Go.Co
set_option maxRecDepth 100000
theorem same_calls (x : FCall) (y1 y2 : Sc) (w : World) (h1 : FlOk w (low w) x y1) (h2 : FlOk w (low w) x y2) :
  Calls Tryd.prog 10 (([] : List Value) ++ [Value.agg (flCells x y1).toArray, Value.agg (flCells x y2).toArray] ++ []).toArray w fun e w' => e = .returned (.bool true) ∧ Ext w w' := by
 have hl := h1.len
 simp only [List.nil_append, List.append_nil, flCells]
 refine enter Tryd.func10 rfl Tryd.ntmps10 rfl (Cls.start w) ?_
 (simp only [argEnv, Nat.zero_add, Nat.reduceAdd])
 apply W.sr
 apply OL.box; rfl; rfl; exact CellsL.agg; (intro bk hbk; simp only [AllLe, and_true] at hbk)
 apply OL.box; rfl; rfl; exact CellsL.agg; (intro bk hbk; simp only [AllLe, and_true] at hbk)
 apply oas; rfl; rfl
 apply OL.nsr
 apply ofa; rfl; rfl; rfl
 apply old; rfl; rfl; exact .tail _ (.head _); rfl; rfl
 apply ofa; rfl; rfl; rfl
 apply old; rfl; rfl; exact .head _; rfl; rfl
 apply obn; rfl; rfl; rfl; apply Bin.eql
 apply omv; rfl; rfl
 apply oy; rfl; rfl; rfl; apply Pev.fld; rfl; exact yes; rfl
 apply oy; rfl; rfl; rfl; apply Pev.load_blk; rfl; exact fun h => h; exact .tail _ (.head _); rfl; rfl
 apply oy; rfl; rfl; rfl; apply Pev.fld; rfl; exact yes; rfl
 apply oy; rfl; rfl; rfl; apply Pev.load_blk; rfl; exact fun h => h; exact .head _; rfl; rfl
 apply oy; rfl; rfl; rfl; apply Pev.bin; rfl; exact fun h => h; rfl; exact fun h => h; intro hcond; apply Bin.bool_eql; rfl
 apply oop; rfl; apply Pev.pick_and; rfl; exact yes; rfl; exact fun h => h
 apply omv; rfl; rfl
 apply oy; rfl; rfl; rfl; apply Pev.fld; rfl; exact yes; rfl
 apply oy; rfl; rfl; rfl; apply Pev.load_blk; rfl; exact fun h => h; exact .tail _ (.head _); rfl; rfl
 apply oy; rfl; rfl; rfl; apply Pev.fld; rfl; exact yes; rfl
 apply oy; rfl; rfl; rfl; apply Pev.load_blk; rfl; exact fun h => h; exact .head _; rfl; rfl
 (((first | (with_reducible apply OL.op) | (with_reducible apply QL.op)); (exact Guard.au); rfl; rfl); (exact Pev.call (v := .bool true) rfl (by exact Args.au) (fun _ w2 hw2 => (IEqual_calls y1.1 y2.1 y1.2 y2.2 x.fns x.fns w2 (by omega) (by omega) (h1.fns.at hw2 (by exact mau) (fun k hk => by exact NotOwned.au)) (h2.fns.at hw2 (by exact mau) (fun k hk => by exact NotOwned.au))).mono (fun e w3 h => ⟨by rw [h.1]; simp, hw2.ext h.2⟩))))
 apply oop; rfl; apply Pev.pick_and; rfl; exact yes; rfl; exact fun h => h
 apply oas; rfl; rfl
 apply OL.nx
 apply W.ret
 ((with_reducible apply At.fin1); rfl; rfl; intro w' hw')
 exact ⟨by simp, by (exact hw'.fr)⟩
theorem FEqual_calls (q1 q2 : Option Addr) (c1 c2 : Nat) (l1 l2 : List (FCall × Sc)) (w : World) (he : l1.map Prod.fst = l2.map Prod.fst) (hlen : l1.length ≤ 9000000000) (h1 : Arr flR w (low w) l1 q1) (h2 : Arr flR w (low w) l2 q2) :
  Calls Tryd.prog 9 #[.slice q1 l1.length c1, .slice q2 l2.length c2, .func (.func 10) #[] #[]] w fun e w' => e = .returned (.bool true) ∧ Ext w w' := by
 have hll : l2.length = l1.length := by
  have := congrArg List.length he
  simpa using this.symm
 rw [hll]
 refine enter Tryd.func9 rfl Tryd.ntmps9 rfl (Cls.start w) ?_
 (simp only [argEnv, Nat.zero_add, Nat.reduceAdd])
 apply W.sr
 apply oas; rfl; rfl
 apply OL.nx
 apply W.seq
 apply W.sr
 apply omv; rfl; rfl
 apply oop; rfl; apply Pev.len_slice; rfl; exact yes; rfl
 apply omv; rfl; rfl
 apply oop; rfl; apply Pev.len_slice; rfl; exact yes; rfl
 apply obn; rfl; rfl; rfl; apply Bin.neq
 apply OL.nx
 refine W.cond rfl (fun hc => by simp at hc) (fun _ => ?_)
 apply W.sk
 apply W.seq
 apply W.sr
 apply omv; rfl; rfl
 apply oop; rfl; apply Pev.len_slice; rfl; exact yes; rfl
 apply omv; rfl; rfl
 apply OL.nx
 apply W.block
 refine W.loop (G := Nat) (fun i => i ≤ l1.length) (fun i => l1.length - i)
  (fun i => [(17, true, .int .i64 (i : Int)), (16, true, .int .i64 (l1.length : Int)), (0, true, .slice q1 l1.length c1), (15, true, .slice q1 l1.length c1), (1, true, .slice q2 l1.length c2), (2, true, .func (.func 10) #[] #[])])
  (fun i => Cls [] [w]) 0 (by omega) (by exact Sub.au) (fun w' hw' => hw') ?_
 intro i hi
 apply W.sr
 apply obn; rfl; rfl; rfl; apply Bin.lss
 apply OL.nx
 apply W.seq
 (refine W.cnd (fun hlt => ?_) (fun hlt => ?_)) <;> (try (exfalso; first | omega | exact hlt trivial | contradiction))
 ·obtain ⟨a1, p1, rfl, hab1, hp1, hc1, ho1⟩ := h1.get (show i < l1.length by omega)
  obtain ⟨a2, p2, rfl, hab2, hp2, hc2, ho2⟩ := h2.get (show i < l2.length by omega)
  have hpp : p2.1 = p1.1 := by
   have h3 := congrArg (fun l : List FCall => l[i]?) he
   simp only [List.getElem?_map, hp1, hp2, Option.map_some] at h3
   exact (Option.some.inj h3).symm
  have hab1 : a1.block < w.heap.size := hab1
  have hab2 : a2.block < w.heap.size := hab2
  have hc1 : CellsAt w (a1.add (i * 3)) (flCells p1.1 p1.2) := hc1
  have hc2 : CellsAt w (a2.add (i * 3)) (flCells p2.1 p2.2) := hc2
  rw [hpp] at hc2 ho2
  have hc1 : CellsAt w (a1.add (i * 3)) [.int .i64 p1.1.pos, .slice p1.2.1 p1.1.fns.length p1.2.2, .bool p1.1.other] := hc1
  have hc2 : CellsAt w (a2.add (i * 3)) [.int .i64 p1.1.pos, .slice p2.2.1 p1.1.fns.length p2.2.2, .bool p1.1.other] := hc2
  apply W.sk
  apply W.sb
  apply W.sr
  apply omv; rfl; rfl
  apply oop; rfl; apply Pev.idx; rfl; exact yes; rfl; exact yes; rfl; rfl; intro hcond; omega
  apply oop; rfl; apply Pev.load_keptA; rfl; exact yes; exact .head _; rfl; intro hcond; assumption; rfl; intro hcond; (rw [add_block]; assumption); intro hcond; exact NotOwned.au
  apply OL.alloc; rfl; rfl; exact CellsL.agg; (intro bk hbk; simp only [AllLe, and_true] at hbk)
  apply oas; rfl; rfl
  apply OL.storeB; rfl; rfl; exact CellsL.agg; rfl; rfl; rfl; exact Swap.au; exact Put.au
  apply OL.nsr
  apply omv; rfl; rfl
  apply omv; rfl; rfl
  apply oop; rfl; apply Pev.idx; rfl; exact yes; rfl; exact yes; rfl; rfl; intro hcond; omega
  apply oop; rfl; apply Pev.load_keptA; rfl; exact yes; exact .head _; rfl; intro hcond; assumption; rfl; intro hcond; (rw [add_block]; assumption); intro hcond; exact NotOwned.au
  apply OL.alloc; rfl; rfl; exact CellsL.agg; (intro bk hbk; simp only [AllLe, and_true] at hbk)
  apply OL.storeB; rfl; rfl; exact CellsL.agg; rfl; rfl; rfl; exact Swap.au; exact Put.au
  apply OL.nsr
  apply omv; rfl; rfl
  apply oop; rfl; apply Pev.load_blkA; rfl; exact yes; exact .tail _ (.head _); rfl; exact Take.au
  apply oop; rfl; apply Pev.load_blkA; rfl; exact yes; exact .head _; rfl; exact Take.au
  (((first | (with_reducible apply OL.op) | (with_reducible apply QL.op)); (exact Guard.au); rfl; rfl); (exact Pev.callv (first := []) (cap := []) (v := .bool true) rfl (by (first | exact fun _ => rfl | exact fun h => h | (intro h; simp_all; done))) rfl (by exact Args.au) (fun _ w2 hw2 => (same_calls p1.1 p1.2 p2.2 w2 (Rel.at (R := flR) ho1 hw2 (by exact mau) (fun k hk => by exact NotOwned.au)) (Rel.at (R := flR) ho2 hw2 (by exact mau) (fun k hk => by exact NotOwned.au))).mono (fun e w3 h => ⟨by rw [h.1], hw2.ext h.2⟩))))
  apply oop; rfl; apply Pev.not; rfl; exact yes
  apply OL.nx
  refine W.cond rfl (fun hc => by simp at hc) (fun _ => ?_)
  apply W.skip
  with_reducible apply At.in_normal
  with_reducible apply At.next
  apply W.reg
  apply obn; rfl; rfl; rfl; apply Bin.add_in; omega
  apply omv; rfl; rfl
  apply OL.nil
  exact At.again (i + 1) (by omega) (by omega) (by exact Sub.au) (fun w' hw' => hw'.thin (by exact Thin.au))
 ·refine W.xt ?_
  with_reducible apply At.next
  apply W.sr
  apply oas; rfl; rfl
  apply OL.nx
  apply W.ret
  ((with_reducible apply At.fin1); rfl; rfl; intro w' hw')
  exact ⟨rfl, by (exact hw'.fr)⟩
end Go.Proofs.YtkpjndhgicbjjaaDoor.co

/- The walk of the reference's Flows.to: rows of flags in blocks of their own. Conditions: none. -/
namespace Go.Co
open Go.Eng
def bools (l : List Bool) : List Value := l.map fun v => .bool v
theorem bools_len (l : List Bool) : (bools l).length = l.length := by simp [bools]
theorem bools_get {l : List Bool} {i : Nat} {v : Bool} (h : l[i]? = some v) : (bools l)[i]? = some (.bool v) := by simp [bools, h]
theorem bools_set (l : List Bool) (i : Nat) (v : Bool) : (bools l).set i (.bool v) = bools (l.set i v) := by simp [bools]
def mixR (A B : List Bool) (i : Nat) : List Bool := A.mapIdx fun f v => v || (decide (f < i) && B.getD f false)
theorem mixR_len (A B : List Bool) (i : Nat) : (mixR A B i).length = A.length := by simp [mixR]
theorem mixR_zero (A B : List Bool) : mixR A B 0 = A := by
 unfold mixR
 refine List.ext_getElem? fun f => ?_
 rw [List.getElem?_mapIdx]
 cases A[f]? <;> simp
theorem mixR_all {A B : List Bool} : mixR A B A.length = orR A B := by
 unfold mixR orR
 refine List.ext_getElem? fun f => ?_
 rw [List.getElem?_mapIdx, List.getElem?_mapIdx]
 by_cases h : f < A.length
 ·simp [h]
 ·rw [List.getElem?_eq_none (by omega)]
  rfl
theorem mixR_get {A B : List Bool} {i : Nat} {x : Bool} (h : A[i]? = some x) : (mixR A B i)[i]? = some x := by
 unfold mixR
 rw [List.getElem?_mapIdx, h]
 simp
theorem mixR_succ {A B : List Bool} {i : Nat} {x y : Bool} (hx : A[i]? = some x) (hy : B[i]? = some y) : mixR A B (i + 1) = (mixR A B i).set i (x || y) := by
 have hl := (List.getElem?_eq_some_iff.1 hx).1
 refine List.ext_getElem? fun f => ?_
 by_cases h : i = f
 ·subst h
  rw [List.getElem?_set_self (by rw [mixR_len]; exact hl)]
  unfold mixR
  rw [List.getElem?_mapIdx, hx]
  simp [List.getD_eq_getElem?_getD, hy]
 ·rw [List.getElem?_set_ne h]
  unfold mixR
  rw [List.getElem?_mapIdx, List.getElem?_mapIdx]
  have : decide (f < i + 1) = decide (f < i) := decide_eq_decide.2 (by omega)
  rw [this]
theorem mixR_same {A B : List Bool} {i : Nat} {x y : Bool} (hx : A[i]? = some x) (hy : B[i]? = some y) (h : (x || y) = x) : mixR A B (i + 1) = mixR A B i := by
 rw [mixR_succ hx hy, h]
 exact set_sameB (mixR_get hx)
where
 set_sameB {l : List Bool} {i : Nat} {x : Bool} (h : l[i]? = some x) : l.set i x = l := by
  refine List.ext_getElem? fun j => ?_
  by_cases hj : i = j
  ·subst hj
   rw [List.getElem?_set_self (List.getElem?_eq_some_iff.1 h).1, h]
  ·rw [List.getElem?_set_ne hj]
theorem mixR_ne {A B : List Bool} {i : Nat} (hx : A[i]? = some false) (hy : B[i]? = some true) (j : Nat) (hj : i < j) : ¬ mixR A B j = A := fun h => by
 have h2 : (mixR A B j)[i]? = A[i]? := by rw [h]
 unfold mixR at h2
 rw [List.getElem?_mapIdx, hx] at h2
 simp [List.getD_eq_getElem?_getD, hy, hj] at h2
end Go.Co
namespace Go.Proofs.YtkpjndhgicbjjaaDoor.co
open Go.RowKit Go.Eng Go.Co
set_option maxRecDepth 100000
theorem to_calls (bs ba bb : Nat) (cE cN cI cD cS : Value) (mv : Bool) (A B : List Bool) (hl : A.length = B.length) (hlim : A.length ≤ 10000) (ca cb : Nat) (H : List Eng.Item) (S : List World) (w : World)
  (hc : Cls (blk bs 63 [cE, cN, cI, cD, cS, .bool mv] :: blk ba 4 (bools A) :: blk bb 4 (bools B) :: H) S w) :
  Calls Tryd.prog 33 [.pointer (some ⟨bs, 0, none⟩), .slice (some ⟨ba, 0, none⟩) A.length ca, .slice (some ⟨bb, 0, none⟩) B.length cb].toArray w fun e w' => e = .returned (.tuple #[]) ∧
   Cls (blk bs 63 [cE, cN, cI, cD, cS, .bool (mv || !decide (orR A B = A))] :: blk ba 4 (bools (orR A B)) :: blk bb 4 (bools B) :: H) S w' := by
 refine enter Tryd.func33 rfl Tryd.ntmps33 rfl hc ?_
 (simp only [argEnv, Nat.zero_add, Nat.reduceAdd])
 apply W.sr
 apply omv; rfl; rfl
 apply oop; rfl; apply Pev.len_slice; rfl; exact yes; rfl
 apply omv; rfl; rfl
 apply OL.nx
 apply W.block
 refine W.loop (G := Nat) (fun i => i ≤ A.length) (fun i => A.length - i)
  (fun i => [(0, true, .pointer (some ⟨bs, 0, none⟩)), (1, true, .slice (some ⟨ba, 0, none⟩) A.length ca), (8, true, .slice (some ⟨bb, 0, none⟩) B.length cb), (9, true, .int .i64 (B.length : Int)), (10, true, .int .i64 (i : Int))])
  (fun i => Cls (blk bs 63 [cE, cN, cI, cD, cS, .bool (mv || !decide (mixR A B i = A))] :: blk ba 4 (bools (mixR A B i)) :: blk bb 4 (bools B) :: H) S) 0 (Nat.zero_le _) (by exact Sub.au) (fun w' hw' => by rw [mixR_zero]; simpa using hw') ?_
 intro i hi
 apply W.sr
 apply obn; rfl; rfl; rfl; apply Bin.lss
 apply OL.nx
 apply W.seq
 (refine W.cnd (fun hlt => ?_) (fun hlt => ?_)) <;> (try (exfalso; first | omega | exact hlt trivial | contradiction))
 ·have hia : i < A.length := by omega
  obtain ⟨x, hx⟩ : ∃ x, A[i]? = some x := ⟨A[i], List.getElem?_eq_getElem hia⟩
  obtain ⟨y, hy⟩ : ∃ y, B[i]? = some y := ⟨B[i], List.getElem?_eq_getElem (by omega)⟩
  have hvb : (bools B)[0 + (i : Int).toNat * 1]? = some (.bool y) := by
   rw [show 0 + (i : Int).toNat * 1 = i by omega]
   exact bools_get hy
  have hva : (bools (mixR A B i))[0 + (i : Int).toNat * 1]? = some (.bool x) := by
   rw [show 0 + (i : Int).toNat * 1 = i by omega]
   exact bools_get (mixR_get hx)
  have hml := mixR_len A B i
  apply W.sk
  apply W.sb
  apply W.sr
  apply omv; rfl; rfl
  apply oop; rfl; apply Pev.idxB; rfl; exact yes; rfl; exact yes; rfl; intro hcond; omega; rfl
  apply oop; rfl; apply Pev.load_blk; rfl; exact yes; exact .tail _ (.tail _ (.head _)); rfl; assumption
  apply oas; rfl; rfl
  apply oas; rfl; rfl
  apply OL.nsr
  apply omv; rfl; rfl
  apply omv; rfl; rfl
  apply oy; rfl; rfl; rfl; apply Pev.move; rfl; exact yes
  apply oy; rfl; rfl; rfl; apply Pev.move; rfl; exact yes
  apply oy; rfl; rfl; rfl; apply Pev.idxB; rfl; exact fun h => h; rfl; exact fun h => h; rfl; intro hcond; omega; rfl
  apply oy; rfl; rfl; rfl; apply Pev.load_blk; rfl; exact fun h => h; exact .tail _ (.head _); rfl; assumption
  apply oy; rfl; rfl; rfl; apply Pev.not; rfl; exact fun h => h
  apply oop; rfl; apply Pev.pick_and; rfl; exact yes; rfl; exact fun h => h
  apply OL.nx
  refine W.cond rfl (fun hb => ?_) (fun hb => ?_)
  ·have hyx : y = true ∧ x = false := by cases x <;> cases y <;> simp at hb ⊢
   obtain ⟨rfl, rfl⟩ := hyx
   apply W.sr
   apply omv; rfl; rfl
   apply omv; rfl; rfl
   apply oop; rfl; apply Pev.idxB; rfl; exact yes; rfl; exact yes; rfl; intro hcond; omega; rfl
   (apply OL.storeI); rfl; rfl; rfl; rfl; rfl; (exact Swap.au); (rw [bools_len]; omega)
   rw [show 0 + (i : Int).toNat * 1 = i by omega, bools_set]
   apply OL.nx
   apply W.reg
   apply omv; rfl; rfl
   apply oop; rfl; apply Pev.nil_ptr; rfl; exact yes
   apply ofa; rfl; rfl; rfl
   apply OL.storeB; rfl; rfl; exact CellsL.one rfl; rfl; rfl; rfl; exact Swap.au; exact Put.au
   apply OL.nil
   with_reducible apply At.in_normal
   with_reducible apply At.next
   apply W.reg
   apply obn; rfl; rfl; rfl; apply Bin.add_in; omega
   apply omv; rfl; rfl
   apply OL.nil
   refine At.again (i + 1) (by omega) (by omega) (by exact Sub.au) (fun w' hw' => ?_)
   have h1 := mixR_succ hx hy
   have h2 := mixR_ne hx hy (i + 1) (by omega)
   rw [h1] at h2 ⊢
   have h3 : decide ((mixR A B i).set i true = A) = false := decide_eq_false h2
   rw [show (false || true) = true from rfl, h3]
   simpa using hw'
  ·have hyx : (x || y) = x := by cases x <;> cases y <;> simp at hb ⊢
   apply W.skip
   with_reducible apply At.in_normal
   with_reducible apply At.next
   apply W.reg
   apply obn; rfl; rfl; rfl; apply Bin.add_in; omega
   apply omv; rfl; rfl
   apply OL.nil
   refine At.again (i + 1) (by omega) (by omega) (by exact Sub.au) (fun w' hw' => ?_)
   rw [mixR_same hx hy hyx]
   exact hw'
 ·obtain rfl : i = A.length := by omega
  refine W.xt ?_
  refine At.end_ (At.fin0 rfl (fun w' hw' => ⟨rfl, ?_⟩))
  rw [mixR_all] at hw'
  exact hw'
theorem to_same_calls (bs ba : Nat) (cE cN cI cD cS mv : Value) (A : List Bool) (hlim : A.length ≤ 10000) (ca cb : Nat) (H : List Eng.Item) (S : List World) (w : World)
  (hc : Cls (blk bs 63 [cE, cN, cI, cD, cS, mv] :: blk ba 4 (bools A) :: H) S w) :
  Calls Tryd.prog 33 [.pointer (some ⟨bs, 0, none⟩), .slice (some ⟨ba, 0, none⟩) A.length ca, .slice (some ⟨ba, 0, none⟩) A.length cb].toArray w fun e w' => e = .returned (.tuple #[]) ∧
   Cls (blk bs 63 [cE, cN, cI, cD, cS, mv] :: blk ba 4 (bools A) :: H) S w' := by
 refine enter Tryd.func33 rfl Tryd.ntmps33 rfl hc ?_
 (simp only [argEnv, Nat.zero_add, Nat.reduceAdd])
 apply W.sr
 apply omv; rfl; rfl
 apply oop; rfl; apply Pev.len_slice; rfl; exact yes; rfl
 apply omv; rfl; rfl
 apply OL.nx
 apply W.block
 refine W.loop (G := Nat) (fun i => i ≤ A.length) (fun i => A.length - i)
  (fun i => [(0, true, .pointer (some ⟨bs, 0, none⟩)), (1, true, .slice (some ⟨ba, 0, none⟩) A.length ca), (8, true, .slice (some ⟨ba, 0, none⟩) A.length cb), (9, true, .int .i64 (A.length : Int)), (10, true, .int .i64 (i : Int))])
  (fun i => Cls (blk bs 63 [cE, cN, cI, cD, cS, mv] :: blk ba 4 (bools A) :: H) S) 0 (Nat.zero_le _) (by exact Sub.au) (fun w' hw' => hw') ?_
 intro i hi
 apply W.sr
 apply obn; rfl; rfl; rfl; apply Bin.lss
 apply OL.nx
 apply W.seq
 (refine W.cnd (fun hlt => ?_) (fun hlt => ?_)) <;> (try (exfalso; first | omega | exact hlt trivial | contradiction))
 ·have hia : i < A.length := by omega
  obtain ⟨x, hx⟩ : ∃ x, A[i]? = some x := ⟨A[i], List.getElem?_eq_getElem hia⟩
  have hva : (bools A)[0 + (i : Int).toNat * 1]? = some (.bool x) := by
   rw [show 0 + (i : Int).toNat * 1 = i by omega]
   exact bools_get hx
  apply W.sk
  apply W.sb
  apply W.sr
  apply omv; rfl; rfl
  apply oop; rfl; apply Pev.idxB; rfl; exact yes; rfl; exact yes; rfl; intro hcond; omega; rfl
  apply oop; rfl; apply Pev.load_blk; rfl; exact yes; exact .tail _ (.head _); rfl; assumption
  apply oas; rfl; rfl
  apply oas; rfl; rfl
  apply OL.nsr
  apply omv; rfl; rfl
  apply omv; rfl; rfl
  apply oy; rfl; rfl; rfl; apply Pev.move; rfl; exact yes
  apply oy; rfl; rfl; rfl; apply Pev.move; rfl; exact yes
  apply oy; rfl; rfl; rfl; apply Pev.idxB; rfl; exact fun h => h; rfl; exact fun h => h; rfl; intro hcond; omega; rfl
  apply oy; rfl; rfl; rfl; apply Pev.load_blk; rfl; exact fun h => h; exact .tail _ (.head _); rfl; assumption
  apply oy; rfl; rfl; rfl; apply Pev.not; rfl; exact fun h => h
  apply oop; rfl; apply Pev.pick_and; rfl; exact yes; rfl; exact fun h => h
  apply OL.nx
  refine W.cond rfl (fun hb => ?_) (fun hb => ?_)
  ·exfalso
   cases x <;> simp at hb
  ·apply W.skip
   with_reducible apply At.in_normal
   with_reducible apply At.next
   apply W.reg
   apply obn; rfl; rfl; rfl; apply Bin.add_in; omega
   apply omv; rfl; rfl
   apply OL.nil
   exact At.again (i + 1) (by omega) (by omega) (by exact Sub.au) (fun w' hw' => hw')
 ·obtain rfl : i = A.length := by omega
  refine W.xt ?_
  exact At.end_ (At.fin0 rfl (fun w' hw' => ⟨rfl, hw'⟩))
end Go.Proofs.YtkpjndhgicbjjaaDoor.co

/- The reference's Flows: its memory; ident, a kid's row, to on it. Conditions: none. -/
namespace Go.Co
open Go.Eng
structure GY where
 bs : Nat
 B : Nat
 ON : Nat → Prop
 OI : Nat → Prop
 OD : Nat → Prop
 gn : Nat
 cn : Nat
 qi : Option Addr
 ci : Nat
 qd : Option Addr
 cd : Nat
 qe : Option Addr
 ce : Nat
 N : List Nat
 D : List Nat
 bh : Nat
structure GS where
 R : FR
 mv : Bool
def slG (n b : Nat) : Value := .slice (some ⟨b, 0, none⟩) (n + 1) (n + 1)
def GY.P (y : GY) : List (Nat × Nat) := (y.N.zipIdx.map fun p => (p.2, p.1)) ++ (y.N.length, y.bh) :: (y.D.zipIdx.map fun p => (y.N.length + 2 + p.2, p.1))
def setG (t : TypeId) (R : FR) (p : Nat × Nat) : Eng.Item := blk p.2 t (bools (R.getD p.1 []))
def setsG (t : TypeId) (R : FR) (P : List (Nat × Nat)) : List Eng.Item := P.map (setG t R)
def GY.c (y : GY) (mv : Bool) : List Value := [.slice y.qe y.N.length y.ce, .slice (some ⟨y.gn, 0, none⟩) y.N.length y.cn, .slice y.qi y.D.length y.ci, .slice y.qd y.D.length y.cd, slG y.N.length y.bh, .bool mv]
structure GYOk (e : List Ex) (y : GY) : Prop where
 ok : FOk e
 len : y.N.length = e.length
 dl : y.D.length = (e.flatMap bindersX).length
 dlim : y.D.length ≤ 1099511627776
 nd : (e.flatMap bindersX).Nodup
 B : ∀ p ∈ y.P, y.B ≤ p.2
structure GSOk (e : List Ex) (s : GS) : Prop where
 dim : FDim e.length (rowsN e) s.R
 lam : LamOnly e s.R
 only : s.R.getD (e.length + 1) [] = rowB0 e (e.length + 1)
theorem zipIdx_fst {l : List Nat} {k : Nat} : (l.zipIdx.map (Prod.fst ∘ fun p : Nat × Nat => (k + p.2, p.1))) = (List.range l.length).map (k + ·) := by
 have : (Prod.fst ∘ fun p : Nat × Nat => (k + p.2, p.1)) = (k + ·) ∘ Prod.snd := rfl
 rw [this, ← List.map_map, List.zipIdx_map_snd, List.range_eq_range']
theorem GP_fst (y : GY) : y.P.map Prod.fst = List.range (y.N.length + 1) ++ (List.range y.D.length).map (y.N.length + 2 + ·) := by
 unfold GY.P
 rw [List.map_append, List.map_cons, List.map_map, List.map_map, zipIdx_fst]
 have h1 : (y.N.zipIdx.map (Prod.fst ∘ fun p : Nat × Nat => (p.2, p.1))) = List.range y.N.length := by
  have : (Prod.fst ∘ fun p : Nat × Nat => (p.2, p.1)) = Prod.snd := rfl
  rw [this, List.zipIdx_map_snd, List.range_eq_range']
 rw [h1, List.range_succ]
 simp
theorem GP_nodup (y : GY) : (y.P.map Prod.fst).Nodup := by
 rw [GP_fst, List.nodup_append]
 refine ⟨List.nodup_range, ?_, fun a ha b hb => ?_⟩
 ·rw [List.range_eq_range', List.map_add_range']
  exact List.nodup_range'
 ·have := List.mem_range.1 ha
  obtain ⟨c, _, rfl⟩ := List.mem_map.1 hb
  omega
theorem GP_lt {e : List Ex} {y : GY} (hy : GYOk e y) : ∀ p ∈ y.P, p.1 < rowsN e ∧ p.1 ≠ e.length + 1 := by
 intro p hp
 have h1 : p.1 ∈ y.P.map Prod.fst := List.mem_map_of_mem hp
 rw [GP_fst] at h1
 have hl := hy.len
 have hd := hy.dl
 unfold rowsN
 rcases List.mem_append.1 h1 with h1 | h1
 ·have := List.mem_range.1 h1
  omega
 ·obtain ⟨c, hc, h2⟩ := List.mem_map.1 h1
  have := List.mem_range.1 hc
  omega
theorem GP_node {y : GY} {i b : Nat} (h : y.N[i]? = some b) : (i, b) ∈ y.P := List.mem_append_left _ (List.mem_map.2 ⟨(b, i), List.mem_zipIdx_iff_getElem?.2 h, rfl⟩)
theorem GP_heap {y : GY} : (y.N.length, y.bh) ∈ y.P := List.mem_append_right _ (.head _)
theorem GP_id {e : List Ex} {y : GY} (hy : GYOk e y) {id : Int} {b : Nat} (h : y.D[(e.flatMap bindersX).idxOf id]? = some b) : (ixF e id, b) ∈ y.P := by
 refine List.mem_append_right _ (.tail _ (List.mem_map.2 ⟨(b, (e.flatMap bindersX).idxOf id), List.mem_zipIdx_iff_getElem?.2 h, ?_⟩))
 unfold ixF
 rw [hy.len]
theorem GD_ex {e : List Ex} {y : GY} (hy : GYOk e y) {id : Int} (hid : id ∈ e.flatMap bindersX) : ∃ b, y.D[(e.flatMap bindersX).idxOf id]? = some b := by
 have h1 := List.idxOf_lt_length_of_mem hid
 rw [← hy.dl] at h1
 exact ⟨y.D[(e.flatMap bindersX).idxOf id], List.getElem?_eq_getElem h1⟩
def GS.into (s : GS) (p q : Nat) : GS := ⟨inR s.R p q, s.mv || !decide (inR s.R p q = s.R)⟩
theorem GSOk.into {e : List Ex} {s : GS} (h : GSOk e s) {p : Nat} (hp : p ≠ e.length + 1) (q : Nat) : GSOk e (s.into p q) where
 dim := h.dim.into p q
 lam := fun a g hg => by
  have hg : hB (inR s.R p q) a g = true := hg
  rw [hB_in] at hg
  cases h1 : hB s.R a g with
  | true => exact h.lam a g h1
  | false =>
   rw [h1] at hg
   simp only [Bool.false_or, Bool.and_eq_true] at hg
   exact h.lam q g hg.2
 only := by
  show (inR s.R p q).getD (e.length + 1) [] = _
  rw [getD_in_ne (fun h => hp h.symm)]
  exact h.only
structure RStep (e : List Ex) (s : GS) (l : List (Nat × Nat)) (s' : GS) : Prop where
 R : s'.R = inAll s.R l
 mv : s'.mv = (s.mv || !decide (inAll s.R l = s.R))
 ok : GSOk e s'
theorem RStep.nil {e : List Ex} {s : GS} (h : GSOk e s) : RStep e s [] s := ⟨rfl, by simp [inAll], h⟩
theorem RStep.app {e : List Ex} {s s' s'' : GS} {l k : List (Nat × Nat)} (h0 : GSOk e s) (h : RStep e s l s') (h' : RStep e s' k s'') : RStep e s (l ++ k) s'' where
 R := by rw [h'.R, h.R, inAll_app]
 mv := by
  rw [h'.mv, h.mv, h.R, inAll_app]
  by_cases h1 : inAll (inAll s.R l) k = s.R
  ·have h2 : inAll s.R l = s.R := FLe.anti (h0.dim.all l) h0.dim (by have := FLe.all (inAll s.R l) k; rw [h1] at this; exact this) (.all _ _)
   rw [h2] at h1 ⊢
   simp [h1]
  ·by_cases h2 : inAll s.R l = s.R
   ·rw [h2] at h1 ⊢
    simp [h1]
   ·simp [h1, h2]
 ok := h'.ok
theorem RStep.one {e : List Ex} {s : GS} {p q : Nat} (h : GSOk e (s.into p q)) : RStep e s [(p, q)] (s.into p q) := ⟨rfl, rfl, h⟩
theorem setsG_other {t : TypeId} {R : FR} {p q : Nat} {L : List (Nat × Nat)} (h : ∀ x ∈ L, x.1 ≠ p) : setsG t (inR R p q) L = setsG t R L := by
 refine List.map_congr_left fun x hx => ?_
 unfold setG
 rw [getD_in_ne (h x hx)]
theorem inR_ne_iff {n m : Nat} {R : FR} (hd : FDim n m R) {p q : Nat} (hp : p < m) : (orR (R.getD p []) (R.getD q []) = R.getD p []) = (inR R p q = R) := by
 refine propext ⟨fun h => ?_, fun h => ?_⟩
 ·unfold inR
  rw [h]
  refine List.ext_getElem? fun j => ?_
  by_cases hj : p = j
  ·subst hj
   have hl : p < R.length := by rw [hd.len]; exact hp
   rw [List.getElem?_set_self hl, List.getD_eq_getElem?_getD, List.getElem?_eq_getElem hl]
   rfl
  ·rw [List.getElem?_set_ne hj]
 ·have h1 : (inR R p q).getD p [] = orR (R.getD p []) (R.getD q []) := getD_in_self (by rw [hd.len]; exact hp)
  rw [h] at h1
  exact h1.symm
end Go.Co
namespace Go.Proofs.YtkpjndhgicbjjaaDoor.co
open Go.RowKit Go.Eng Go.Co
set_option maxRecDepth 100000
def flG (e : List Ex) (y : GY) (s : GS) (H : List Eng.Item) : List Eng.Item :=
 blk y.bs 63 (y.c s.mv) :: bag y.B (setsG 4 s.R y.P) :: row y.B y.ON (some ⟨y.gn, 0, none⟩) y.N.length y.cn 60 1 (y.N.map (slG y.N.length)) :: row y.B y.OI y.qi y.D.length y.ci 3 1 (ints (e.flatMap bindersX)) :: row y.B y.OD y.qd y.D.length y.cd 60 1 (y.D.map (slG y.N.length)) :: H
theorem flG_no {e : List Ex} {y : GY} {s : GS} {H : List Eng.Item} {m : Nat} (hB : m ≤ y.B) (hbs : m ≤ y.bs) (hno : ∀ k, k < m → NotOwned H k) : ∀ k, k < m → NotOwned (flG e y s H) k := fun k hk =>
 NotOwned.blk (by omega) (NotOwned.bag (by omega) (NotOwned.row (by omega) (NotOwned.row (by omega) (NotOwned.row (by omega) (hno k hk)))))
theorem flGX {e : List Ex} {y : GY} {s : GS} {H : List Eng.Item} {S : List World} {w : World} {j : Eng.Item} : Cls (j :: flG e y s H) S w ↔ Cls (flG e y s (j :: H)) S w := by
 unfold flG
 exact ⟨fun h => h.perm ((List.perm_append_comm (l₁ := [_]) (l₂ := [_, _, _, _, _])).append_right _), fun h => h.perm ((List.perm_append_comm (l₁ := [_, _, _, _, _]) (l₂ := [_])).append_right _)⟩
def flGP (e : List Ex) (y : GY) (P : List (Nat × Nat)) (s : GS) (H : List Eng.Item) : List Eng.Item :=
 blk y.bs 63 (y.c s.mv) :: bag y.B (setsG 4 s.R P) :: row y.B y.ON (some ⟨y.gn, 0, none⟩) y.N.length y.cn 60 1 (y.N.map (slG y.N.length)) :: row y.B y.OI y.qi y.D.length y.ci 3 1 (ints (e.flatMap bindersX)) :: row y.B y.OD y.qd y.D.length y.cd 60 1 (y.D.map (slG y.N.length)) :: H
theorem toP_calls (e : List Ex) (y : GY) (P : List (Nat × Nat)) (s : GS) (hy : GYOk e y) (hs : GSOk e s) (p b q c : Nat) (hp : (p, b) ∈ P) (hq : (q, c) ∈ P) (hnd : (P.map Prod.fst).Nodup) (hlt : ∀ p ∈ P, p.1 < rowsN e) (hBP : ∀ p ∈ P, y.B ≤ p.2) (hpn : p ≠ e.length + 1) (H : List Eng.Item) (S : List World) (w : World)
  (hc : Cls (flGP e y P s H) S w) :
  Calls Tryd.prog 33 [.pointer (some ⟨y.bs, 0, none⟩), slG y.N.length b, slG y.N.length c].toArray w fun r w' => r = .returned (.tuple #[]) ∧ GSOk e (s.into p q) ∧ Cls (flGP e y P (s.into p q) H) S w' := by
 have hlen := hy.ok.len
 have hn := hy.len
 have hpl := hlt _ hp
 have hql := hlt _ hq
 have hd := hs.dim
 have hap : (s.R.getD p []).length = e.length + 1 := hd.at hpl
 have haq : (s.R.getD q []).length = e.length + 1 := hd.at hql
 rw [← hy.len] at hap haq
 have hbB := hBP _ hp
 have hcB := hBP _ hq
 by_cases hne : p = q
 ·subst hne
  obtain rfl := fst_one hnd hp hq
  have hL := List.perm_cons_erase hp
  have h1 : Cls (bag y.B (setsG 4 s.R P) :: blk y.bs 63 (y.c s.mv) :: row y.B y.ON (some ⟨y.gn, 0, none⟩) y.N.length y.cn 60 1 (y.N.map (slG y.N.length)) :: row y.B y.OI y.qi y.D.length y.ci 3 1 (ints (e.flatMap bindersX)) :: row y.B y.OD y.qd y.D.length y.cd 60 1 (y.D.map (slG y.N.length)) :: H) S w := hc.flip
  have h2 := h1.bag_perm (hL.map (setG 4 s.R))
  have h5 : Cls (blk y.bs 63 (y.c s.mv) :: blk b 4 (bools (s.R.getD p [])) :: bag y.B (setsG 4 s.R (P.erase (p, b))) :: row y.B y.ON (some ⟨y.gn, 0, none⟩) y.N.length y.cn 60 1 (y.N.map (slG y.N.length)) :: row y.B y.OI y.qi y.D.length y.ci 3 1 (ints (e.flatMap bindersX)) :: row y.B y.OD y.qd y.D.length y.cd 60 1 (y.D.map (slG y.N.length)) :: H) S w :=
   h2.bag_out.perm ((List.perm_append_comm (l₁ := [_, _]) (l₂ := [_])).append_right _)
  have hcall := to_same_calls y.bs b _ _ _ _ _ _ (s.R.getD p []) (by omega) (y.N.length + 1) (y.N.length + 1) _ S w h5
  rw [hap] at hcall
  refine hcall.mono fun r w' ⟨h6, h7⟩ => ⟨h6, hs.into hpn p, ?_⟩
  have h4 : s.into p p = s := by
   unfold GS.into
   rw [inR_self]
   simp
  rw [h4]
  have h8 : Cls (blk b 4 (bools (s.R.getD p [])) :: bag y.B (setsG 4 s.R (P.erase (p, b))) :: blk y.bs 63 (y.c s.mv) :: row y.B y.ON (some ⟨y.gn, 0, none⟩) y.N.length y.cn 60 1 (y.N.map (slG y.N.length)) :: row y.B y.OI y.qi y.D.length y.ci 3 1 (ints (e.flatMap bindersX)) :: row y.B y.OD y.qd y.D.length y.cd 60 1 (y.D.map (slG y.N.length)) :: H) S w' :=
   h7.perm ((List.perm_append_comm (l₁ := [_]) (l₂ := [_, _])).append_right _)
  have h9 := h8.bag_in (fun k hk => by rw [show k = b from hk]; exact hbB)
  exact (h9.bag_perm (hL.map (setG 4 s.R)).symm).flip
 ·obtain ⟨L, hL⟩ := two_perm hp hq (fun h => hne (congrArg Prod.fst h))
  have hnd2 := ((hL.map Prod.fst).nodup_iff.1 hnd)
  simp only [List.map_cons, List.nodup_cons, List.mem_cons, not_or] at hnd2
  have hoth : ∀ x ∈ L, x.1 ≠ p := fun x hx h => hnd2.1.2 (List.mem_map.2 ⟨x, hx, h⟩)
  have h1 : Cls (bag y.B (setsG 4 s.R P) :: blk y.bs 63 (y.c s.mv) :: row y.B y.ON (some ⟨y.gn, 0, none⟩) y.N.length y.cn 60 1 (y.N.map (slG y.N.length)) :: row y.B y.OI y.qi y.D.length y.ci 3 1 (ints (e.flatMap bindersX)) :: row y.B y.OD y.qd y.D.length y.cd 60 1 (y.D.map (slG y.N.length)) :: H) S w := hc.flip
  have h2 := h1.bag_perm (hL.map (setG 4 s.R))
  have h4 := (h2.bag_out.flip).bag_out
  have h5 : Cls (blk y.bs 63 (y.c s.mv) :: blk b 4 (bools (s.R.getD p [])) :: blk c 4 (bools (s.R.getD q [])) :: bag y.B (setsG 4 s.R L) :: row y.B y.ON (some ⟨y.gn, 0, none⟩) y.N.length y.cn 60 1 (y.N.map (slG y.N.length)) :: row y.B y.OI y.qi y.D.length y.ci 3 1 (ints (e.flatMap bindersX)) :: row y.B y.OD y.qd y.D.length y.cd 60 1 (y.D.map (slG y.N.length)) :: H) S w :=
   h4.perm (((List.perm_append_comm (l₁ := [_, _, _]) (l₂ := [_])).trans (List.Perm.cons _ ((List.perm_append_comm (l₁ := [_, _]) (l₂ := [_])).trans (List.Perm.cons _ (.refl _))))).append_right _)
  have hcall := to_calls y.bs b c _ _ _ _ _ s.mv (s.R.getD p []) (s.R.getD q []) (by omega) (by omega) (y.N.length + 1) (y.N.length + 1) _ S w h5
  rw [hap, haq] at hcall
  refine hcall.mono fun r w' ⟨h6, h7⟩ => ⟨h6, hs.into hpn q, ?_⟩
  rw [show decide (orR (s.R.getD p []) (s.R.getD q []) = s.R.getD p []) = decide (inR s.R p q = s.R) from decide_eq_decide.2 (iff_of_eq (inR_ne_iff hd hpl))] at h7
  have h8 : Cls (blk c 4 (bools (s.R.getD q [])) :: bag y.B (setsG 4 s.R L) :: blk b 4 (bools (orR (s.R.getD p []) (s.R.getD q []))) :: blk y.bs 63 (y.c (s.mv || !decide (inR s.R p q = s.R))) :: row y.B y.ON (some ⟨y.gn, 0, none⟩) y.N.length y.cn 60 1 (y.N.map (slG y.N.length)) :: row y.B y.OI y.qi y.D.length y.ci 3 1 (ints (e.flatMap bindersX)) :: row y.B y.OD y.qd y.D.length y.cd 60 1 (y.D.map (slG y.N.length)) :: H) S w' :=
   h7.perm (((List.perm_append_comm (l₁ := [_, _]) (l₂ := [_, _])).trans (List.Perm.cons _ (List.Perm.cons _ (List.Perm.swap _ _ _)))).append_right _)
  have h9 := h8.bag_in (fun k hk => by rw [show k = c from hk]; exact hcB)
  have h10 := (h9.flip).bag_in (fun k hk => by rw [show k = b from hk]; exact hbB)
  have e1 : setsG 4 (inR s.R p q) ((p, b) :: (q, c) :: L) = blk b 4 (bools (orR (s.R.getD p []) (s.R.getD q []))) :: blk c 4 (bools (s.R.getD q [])) :: setsG 4 s.R L := by
   show setG 4 (inR s.R p q) (p, b) :: setG 4 (inR s.R p q) (q, c) :: setsG 4 (inR s.R p q) L = _
   rw [setsG_other hoth]
   unfold setG
   rw [getD_in_self (by rw [hd.len]; exact hpl), getD_in_ne (fun h => hne h.symm)]
  rw [← e1] at h10
  exact (h10.bag_perm (hL.map (setG 4 (inR s.R p q))).symm).flip
theorem toG_calls (e : List Ex) (y : GY) (s : GS) (hy : GYOk e y) (hs : GSOk e s) (p b q c : Nat) (hp : (p, b) ∈ y.P) (hq : (q, c) ∈ y.P) (H : List Eng.Item) (S : List World) (w : World)
  (hc : Cls (flG e y s H) S w) :
  Calls Tryd.prog 33 [.pointer (some ⟨y.bs, 0, none⟩), slG y.N.length b, slG y.N.length c].toArray w fun r w' => r = .returned (.tuple #[]) ∧ GSOk e (s.into p q) ∧ Cls (flG e y (s.into p q) H) S w' := toP_calls e y y.P s hy hs p b q c hp hq (GP_nodup y) (fun p hp => (GP_lt hy p hp).1) hy.B (GP_lt hy _ hp).2 H S w hc
theorem identP_calls (e : List Ex) (y : GY) (P : List (Nat × Nat)) (s : GS) (hy : GYOk e y) (id : Int) (hid : id ∈ e.flatMap bindersX) (b : Nat) (hb : y.D[(e.flatMap bindersX).idxOf id]? = some b) (H : List Eng.Item) (S : List World) (w : World)
  (hc : Cls (flGP e y P s H) S w) :
  Calls Tryd.prog 34 [.pointer (some ⟨y.bs, 0, none⟩), .int .i64 id].toArray w fun r w' => r = .returned (slG y.N.length b) ∧ Cls (flGP e y P s H) S w' := by
 have hdl := hy.dl
 have hdm := hy.dlim
 refine enter Tryd.func34 rfl Tryd.ntmps34 rfl hc ?_
 (simp only [argEnv, Nat.zero_add, Nat.reduceAdd])
 unfold flGP GY.c
 have hpos : 0 < y.D.length := by rw [hdl]; exact List.length_pos_of_mem hid
 refine W.fact (φ := ∃ g0, y.qi = some ⟨g0, 0, none⟩) (fun w' hw' => row_some (hw'.item (i := row y.B y.OI y.qi y.D.length y.ci 3 1 (ints (e.flatMap bindersX))) (by exact mau)) hpos) ?_
 rintro ⟨g0, hg0⟩
 refine W.fact (φ := ∃ g0, y.qd = some ⟨g0, 0, none⟩) (fun w' hw' => row_some (hw'.item (i := row y.B y.OD y.qd y.D.length y.cd 60 1 (y.D.map (slG y.N.length))) (by exact mau)) hpos) ?_
 rintro ⟨g1, hg1⟩
 rw [hg0, hg1]
 apply W.sr
 apply oas; rfl; rfl
 apply OL.nx
 apply W.seq
 apply W.sr
 apply omv; rfl; rfl
 apply oop; rfl; apply Pev.nil_ptr; rfl; exact yes
 apply ofa; rfl; rfl; rfl
 apply old; rfl; rfl; exact .head _; rfl; rfl
 apply oop; rfl; apply Pev.len_slice; rfl; exact yes; rfl
 apply omv; rfl; rfl
 apply OL.nx
 apply W.block
 refine W.loop (G := Nat) (fun i => i ≤ y.D.length ∧ id ∉ (e.flatMap bindersX).take i) (fun i => y.D.length - i)
  (fun i => [(0, true, .pointer (some ⟨y.bs, 0, none⟩)), (1, true, .int .i64 id), (10, true, .slice (some ⟨g0, 0, none⟩) y.D.length y.ci), (11, true, .int .i64 (y.D.length : Int)), (12, true, .int .i64 (i : Int))])
  (fun i => Cls (blk y.bs 63 [.slice y.qe y.N.length y.ce, .slice (some ⟨y.gn, 0, none⟩) y.N.length y.cn, .slice (some ⟨g0, 0, none⟩) y.D.length y.ci, .slice (some ⟨g1, 0, none⟩) y.D.length y.cd, slG y.N.length y.bh, .bool s.mv] :: bag y.B (setsG 4 s.R P) :: row y.B y.ON (some ⟨y.gn, 0, none⟩) y.N.length y.cn 60 1 (y.N.map (slG y.N.length)) :: row y.B y.OI (some ⟨g0, 0, none⟩) y.D.length y.ci 3 1 (ints (e.flatMap bindersX)) :: row y.B y.OD (some ⟨g1, 0, none⟩) y.D.length y.cd 60 1 (y.D.map (slG y.N.length)) :: H) S) 0 ⟨Nat.zero_le _, by simp⟩ (by exact Sub.au) (fun w' hw' => hw') ?_
 rintro i ⟨hi, hnm⟩
 apply W.sr
 apply obn; rfl; rfl; rfl; apply Bin.lss
 apply OL.nx
 apply W.seq
 (refine W.cnd (fun hlt => ?_) (fun hlt => ?_)) <;> (try (exfalso; first | omega | exact hlt trivial | contradiction))
 ·obtain ⟨u, hu⟩ : ∃ u, (e.flatMap bindersX)[i]? = some u := ⟨(e.flatMap bindersX)[i]'(by omega), List.getElem?_eq_getElem _⟩
  have hv : (ints (e.flatMap bindersX))[0 + (i : Int).toNat * 1]? = some (.int .i64 u) := by
   rw [show 0 + (i : Int).toNat * 1 = i by omega]
   simp [ints, hu]
  apply W.sk
  apply W.sb
  apply W.sr
  apply omv; rfl; rfl
  apply oop; rfl; apply Pev.idxB; rfl; exact yes; rfl; exact yes; rfl; intro hcond; omega; rfl
  apply oop; rfl; apply Pev.load_row; rfl; exact yes; apply List.Mem.tail; exact .tail _ (.tail _ (.head _)); rfl; assumption
  apply oas; rfl; rfl
  apply oas; rfl; rfl
  apply OL.nsr
  apply omv; rfl; rfl
  apply omv; rfl; rfl
  apply obn; rfl; rfl; rfl; apply Bin.eql
  apply OL.nx
  (refine W.cnd (fun heq => ?_) (fun heq => ?_)) <;> (try (exfalso; first | omega | exact heq trivial | contradiction))
  ·subst heq
   have hidx : (e.flatMap bindersX).idxOf u = i := by
    have h1 := List.idxOf_lt_length_of_mem hid
    have h2 := List.getElem_idxOf h1
    obtain ⟨h3, h4⟩ := List.getElem?_eq_some_iff.1 hu
    apply Decidable.byContradiction
    intro hne
    rcases Nat.lt_or_ge ((e.flatMap bindersX).idxOf u) i with h5 | h5
    ·exact hnm (List.mem_of_getElem? (i := (e.flatMap bindersX).idxOf u) (by rw [List.getElem?_take_of_lt h5, List.getElem?_eq_getElem h1, h2]))
    ·have := List.pairwise_iff_getElem.1 hy.nd i ((e.flatMap bindersX).idxOf u) h3 h1 (by omega)
     rw [h4, h2] at this
     exact this rfl
   have hd : (y.D.map (slG y.N.length))[0 + (i : Int).toNat * 1]? = some (slG y.N.length b) := by
    rw [show 0 + (i : Int).toNat * 1 = i by omega, List.getElem?_map, ← hidx, hb]
    rfl
   apply W.sr
   apply omv; rfl; rfl
   apply oop; rfl; apply Pev.nil_ptr; rfl; exact yes
   apply ofa; rfl; rfl; rfl
   apply old; rfl; rfl; exact .head _; rfl; rfl
   apply omv; rfl; rfl
   apply oop; rfl; apply Pev.idxB; rfl; exact yes; rfl; exact yes; rfl; intro hcond; omega; rfl
   apply oop; rfl; apply Pev.load_row; rfl; exact yes; apply List.Mem.tail; apply List.Mem.tail; exact .tail _ (.tail _ (.head _)); rfl; assumption
   apply oas; rfl; rfl
   apply OL.nx
   refine W.rt ?_
   ((with_reducible apply At.fin1); rfl; rfl; intro w' hw')
   exact ⟨rfl, hw'⟩
  ·apply W.skip
   with_reducible apply At.in_normal
   with_reducible apply At.next
   apply W.reg
   apply obn; rfl; rfl; rfl; apply Bin.add_in; omega
   apply omv; rfl; rfl
   apply OL.nil
   refine At.again (i + 1) ⟨by omega, ?_⟩ (by omega) (by exact Sub.au) (fun w' hw' => hw')
   rw [List.take_add_one, hu]
   simp only [Option.toList_some, List.mem_append, List.mem_singleton, not_or]
   exact ⟨hnm, fun h => heq h.symm⟩
 ·exfalso
  obtain rfl : i = y.D.length := by omega
  rw [hdl, List.take_length] at hnm
  exact hnm hid
theorem identG_calls (e : List Ex) (y : GY) (s : GS) (hy : GYOk e y) (id : Int) (hid : id ∈ e.flatMap bindersX) (b : Nat) (hb : y.D[(e.flatMap bindersX).idxOf id]? = some b) (H : List Eng.Item) (S : List World) (w : World)
  (hc : Cls (flG e y s H) S w) :
  Calls Tryd.prog 34 [.pointer (some ⟨y.bs, 0, none⟩), .int .i64 id].toArray w fun r w' => r = .returned (slG y.N.length b) ∧ Cls (flG e y s H) S w' := identP_calls e y y.P s hy id hid b hb H S w hc
end Go.Proofs.YtkpjndhgicbjjaaDoor.co

/- The walk of the function inside the reference's Flows.node: a kid's row. Conditions: none. -/
namespace Go.Proofs.YtkpjndhgicbjjaaDoor.co
open Go.RowKit Go.Eng Go.Co
set_option maxRecDepth 100000
theorem kid_exG {e : List Ex} {y : GY} (hy : GYOk e y) {i : Nat} {x : Ex} (hx : e[i]? = some x) {k : Nat} (hk : k < x.kids.length) : ∃ b, y.N[kidN x k]? = some b := by
 have h1 := (hy.ok.kid hx hk).1
 have h2 := (List.getElem?_eq_some_iff.1 hx).1
 have h3 := hy.len
 exact ⟨y.N[kidN x k], List.getElem?_eq_getElem (by omega)⟩
theorem own_exG {e : List Ex} {y : GY} (hy : GYOk e y) {i : Nat} (hi : i < e.length) : ∃ b, y.N[i]? = some b := by
 have h3 := hy.len
 exact ⟨y.N[i], List.getElem?_eq_getElem (by omega)⟩
theorem rowG {y : GY} {k b : Nat} (h : y.N[k]? = some b) : (y.N.map (slG y.N.length))[0 + (k : Int).toNat * 1]? = some (slG y.N.length b) := by
 rw [show 0 + (k : Int).toNat * 1 = k by omega, List.getElem?_map, h]
 rfl
def cbI (y : GY) (b3 b5 : Nat) (x : Ex) (xy : ExY) (L : List Eng.Item) : List Eng.Item :=
 blk b5 43 [.int .i64 x.op, .int .i64 x.n, .slice xy.b.1 x.binds.length xy.b.2, .slice xy.k.1 x.kids.length xy.k.2, .slice xy.a.1 x.alts.length xy.a.2] :: blk b3 59 [.pointer (some ⟨y.bs, 0, none⟩)] :: L
theorem kidG_calls (s0 : World) (e : List Ex) (y : GY) (hy : GYOk e y) (hyB : s0.heap.size ≤ y.B) (hbs : s0.heap.size ≤ y.bs) (i : Nat) (x : Ex) (xy : ExY) (hx : e[i]? = some x) (hok : ExOk s0 (low s0) x xy)
  (b3 b5 : Nat) (hb3 : s0.heap.size ≤ b3) (hb5 : s0.heap.size ≤ b5) (s : GS) (k : Nat) (hk : k < x.kids.length) (b : Nat) (hb : y.N[kidN x k]? = some b) (H : List Eng.Item) (hno : ∀ k, k < s0.heap.size → NotOwned H k) (S : List World) (hs0 : s0 ∈ S) (w : World)
  (hc : Cls (cbI y b3 b5 x xy (flG e y s H)) S w) :
  Calls Tryd.prog 32 [.int .i64 (k : Int), .pointer (some ⟨b3, 0, none⟩), .pointer (some ⟨b5, 0, none⟩)].toArray w fun r w' => r = .returned (slG y.N.length b) ∧ Cls (cbI y b3 b5 x xy (flG e y s H)) S w' := by
 have hn := hy.len
 have hlen := hy.ok.len
 have hkl := hok.kl
 have hkc := hok.kc
 have hil := (List.getElem?_eq_some_iff.1 hx).1
 obtain ⟨ak, uk, hqk, habk, huk, hcellk⟩ := hok.k.get hk
 obtain ⟨hk0, hke⟩ := hy.ok.kid hx hk
 have hu : uk = (kidN x k : Int) := Option.some.inj (huk.symm.trans hke)
 subst hu
 have habk : ak.block < s0.heap.size := habk
 have hcellk : s0.cell? (ak.add (k * 1)) = some (.int .i64 (kidN x k : Int)) := hcellk
 obtain ⟨k1, hk1'⟩ : ∃ k1, kidN x k = k1 := ⟨_, rfl⟩
 rw [hk1'] at hcellk hk0 hb
 have hrow := rowG hb
 refine enter Tryd.func32 rfl Tryd.ntmps32 rfl hc ?_
 (simp only [argEnv, Nat.zero_add, Nat.reduceAdd])
 unfold cbI flG GY.c
 rw [hqk]
 apply W.sr
 apply oas; rfl; rfl
 apply OL.nx
 apply W.seq
 apply W.regd0; decide +kernel; kernel_rfl; decide +kernel; exact fun w hw => hw.drew
 apply qld; rfl; rfl; exact .tail _ (.head _); rfl; rfl
 apply qop; rfl; apply Pev.nil_ptr; rfl; exact yes
 apply qfa; rfl; rfl; rfl
 apply qld; rfl; rfl; exact .tail _ (.tail _ (.head _)); rfl; rfl
 apply qfa; rfl; rfl; rfl
 apply qld; rfl; rfl; exact .head _; rfl; rfl
 apply qmv; rfl; rfl
 apply qop; rfl; apply Pev.idx; rfl; exact yes; rfl; exact yes; rfl; rfl; intro hcond; omega
 apply qop; rfl; apply Pev.load_kept; rfl; exact yes; assumption; rfl; intro hcond; assumption; intro hcond; (rw [add_block]; assumption); intro hcond; (focus ((try simp only [add_block]); (repeat (first | exact NotOwned.nil | exact hno _ (by omega) | exact hnr _ (by omega) | refine NotOwned.any (hXn _ (by omega)) ?_ | refine NotOwned.blk (by omega) ?_ | refine NotOwned.row (by omega) ?_ | refine NotOwned.rws (by omega) ?_ | refine NotOwned.pile (by omega) ?_ | refine NotOwned.pool (by omega) ?_ | refine NotOwned.bag (by omega) ?_ | refine NotOwned.mapI (by omega) ?_ | apply NotOwned.bif | refine NotOwned.nothing ?_)); done))
 apply qop; rfl; apply Pev.idxB; rfl; exact yes; rfl; exact yes; rfl; intro hcond; omega; rfl
 apply qop; rfl; apply Pev.load_row; rfl; exact yes; apply List.Mem.tail; apply List.Mem.tail; exact .tail _ (.tail _ (.head _)); rfl; assumption
 apply qas; rfl; rfl
 apply QL.nil
 with_reducible apply At.next
 apply W.ret
 ((with_reducible apply At.fin1); rfl; rfl; intro w' hw')
 exact ⟨rfl, hw'⟩
theorem kidV_calls (s0 : World) (e : List Ex) (y : GY) (hy : GYOk e y) (hyB : s0.heap.size ≤ y.B) (hbs : s0.heap.size ≤ y.bs) (i : Nat) (x : Ex) (xy : ExY) (hx : e[i]? = some x) (hok : ExOk s0 (low s0) x xy)
  (b3 b5 : Nat) (hb3 : s0.heap.size ≤ b3) (hb5 : s0.heap.size ≤ b5) (s : GS) (k : Nat) (hk : k < x.kids.length) (b : Nat) (hb : y.N[kidN x k]? = some b) (H : List Eng.Item) (hno : ∀ k, k < s0.heap.size → NotOwned H k) (S : List World) (hs0 : s0 ∈ S) (w : World)
  (hc : Cls (cbI y b3 b5 x xy (flG e y s H)) S w) :
  Calls Tryd.prog 32 (([] : List Value) ++ [Value.int .i64 (k : Int)] ++ [Value.pointer (some ⟨b3, 0, none⟩), Value.pointer (some ⟨b5, 0, none⟩)]).toArray w fun r w' => r = .returned (slG y.N.length b) ∧ Cls (cbI y b3 b5 x xy (flG e y s H)) S w' := by
 rw [show (([] : List Value) ++ [Value.int .i64 (k : Int)] ++ [Value.pointer (some ⟨b3, 0, none⟩), Value.pointer (some ⟨b5, 0, none⟩)]) = [Value.int .i64 (k : Int), Value.pointer (some ⟨b3, 0, none⟩), Value.pointer (some ⟨b5, 0, none⟩)] from rfl]
 exact kidG_calls s0 e y hy hyB hbs i x xy hx hok b3 b5 hb3 hb5 s k hk b hb H hno S hs0 w hc
theorem cbX {e : List Ex} {y : GY} {s : GS} {b3 b5 : Nat} {x : Ex} {xy : ExY} {H : List Eng.Item} {S : List World} {w : World} : Cls (cbI y b3 b5 x xy (flG e y s H)) S w ↔ Cls (flG e y s (cbI y b3 b5 x xy H)) S w := by
 unfold cbI flG
 exact ⟨fun h => h.perm ((List.perm_append_comm (l₁ := [_, _]) (l₂ := [_, _, _, _, _])).append_right _), fun h => h.perm ((List.perm_append_comm (l₁ := [_, _, _, _, _]) (l₂ := [_, _])).append_right _)⟩
theorem toB_calls (e : List Ex) (y : GY) (s : GS) (hy : GYOk e y) (hs : GSOk e s) (p b q c : Nat) (hp : (p, b) ∈ y.P) (hq : (q, c) ∈ y.P) (b3 b5 : Nat) (x : Ex) (xy : ExY) (H : List Eng.Item) (S : List World) (w : World)
  (hc : Cls (cbI y b3 b5 x xy (flG e y s H)) S w) :
  Calls Tryd.prog 33 [.pointer (some ⟨y.bs, 0, none⟩), slG y.N.length b, slG y.N.length c].toArray w fun r w' => ∃ _ : Unit, r = .returned (.tuple #[]) ∧ GSOk e (s.into p q) ∧ Cls (cbI y b3 b5 x xy (flG e y (s.into p q) H)) S w' :=
 (toG_calls e y s hy hs p b q c hp hq _ S w (cbX.1 hc)).mono fun r w' ⟨h1, h2, h3⟩ => ⟨(), h1, h2, cbX.2 h3⟩
theorem identB_calls (e : List Ex) (y : GY) (s : GS) (hy : GYOk e y) (id : Int) (hid : id ∈ e.flatMap bindersX) (b : Nat) (hb : y.D[(e.flatMap bindersX).idxOf id]? = some b) (b3 b5 : Nat) (x : Ex) (xy : ExY) (H : List Eng.Item) (S : List World) (w : World)
  (hc : Cls (cbI y b3 b5 x xy (flG e y s H)) S w) :
  Calls Tryd.prog 34 [.pointer (some ⟨y.bs, 0, none⟩), .int .i64 id].toArray w fun r w' => r = .returned (slG y.N.length b) ∧ Cls (cbI y b3 b5 x xy (flG e y s H)) S w' :=
 (identG_calls e y s hy id hid b hb _ S w (cbX.1 hc)).mono fun r w' ⟨h1, h2⟩ => ⟨h1, cbX.2 h2⟩
end Go.Proofs.YtkpjndhgicbjjaaDoor.co

/- The walk of the reference's Flows.node: let, rec, con, row, functions. Conditions: none. -/
namespace Go.Co
open Go.Eng
structure NStep (e : List Ex) (s : GS) (i : Nat) (s' : GS) : Prop where
 R : s'.R = nodeF true e.length (ixF e) e s.R i
 mv : s'.mv = (s.mv || !decide (s'.R = s.R))
 ok : GSOk e s'
theorem NStep.of {e : List Ex} {s s' : GS} {i : Nat} {x : Ex} {l : List (Nat × Nat)} (hx : e[i]? = some x) (ho : x.op ≠ 2) (hl : l = edges e.length (ixF e) e s.R i x) (h : RStep e s l s') : NStep e s i s' := by
 have h1 : nodeF true e.length (ixF e) e s.R i = inAll s.R l := by
  unfold nodeF
  rw [hx]
  simp only [ho, if_false]
  rw [hl]
 exact ⟨h.R.trans h1.symm, by rw [h.mv, ← h.R], h.ok⟩
theorem GSOk.onB {e : List Ex} {s : GS} (h : GSOk e s) {i : Nat} {x : Ex} (hx : e[i]? = some x) (ho : x.op = 2) : GSOk e ⟨onB s.R i i, true⟩ where
 dim := h.dim.on i i
 lam := fun a g hg => by
  have hg : hB (Go.Co.onB s.R i i) a g = true := hg
  rw [hB_on] at hg
  cases h1 : hB s.R a g with
  | true => exact h.lam a g h1
  | false =>
   rw [h1] at hg
   simp only [Bool.false_or, Bool.and_eq_true, decide_eq_true_eq] at hg
   rw [hg.1.2]
   exact .inr ⟨x, hx, ho⟩
 only := by
  have hi := (List.getElem?_eq_some_iff.1 hx).1
  show (Go.Co.onB s.R i i).getD (e.length + 1) [] = _
  rw [← h.only]
  unfold Go.Co.onB
  simp only [List.getD_eq_getElem?_getD]
  rw [List.getElem?_set_ne (by omega)]
end Go.Co
namespace Go.Proofs.YtkpjndhgicbjjaaDoor.co
open Go.RowKit Go.Eng Go.Co
set_option maxRecDepth 100000
theorem gnode_let (s0 : World) (e : List Ex) (y : GY) (hy : GYOk e y) (hyB : s0.heap.size ≤ y.B) (hbs : s0.heap.size ≤ y.bs) (i : Nat) (x : Ex) (xy : ExY) (hx : e[i]? = some x) (hok : ExOk s0 (low s0) x xy) (ho : x.op = 4)
  (s : GS) (hs : GSOk e s) (H : List Eng.Item) (hno : ∀ k, k < s0.heap.size → NotOwned H k) (S : List World) (hs0 : s0 ∈ S) (hSS : ∀ s ∈ S, s.heap.size ≤ s0.heap.size) (w : World) (hc : Cls (flG e y s H) S w) :
  Calls Tryd.prog 20 [.pointer (some ⟨y.bs, 0, none⟩), .int .i64 (i : Int), .agg (exC x xy).toArray].toArray w fun r w' => ∃ s', r = .returned (.tuple #[]) ∧ RStep e s (eStat e.length (ixF e) i x) s' ∧ Cls (flG e y s' H) S w' := by
 have hsh := hy.ok.sh i x hx
 have hn := hy.len
 have hlen := hy.ok.len
 have hil := (List.getElem?_eq_some_iff.1 hx).1
 have hkl := hok.kl
 have hbl := hok.bl
 have hLim : ∀ k, s0.heap.size ≤ k → AllLe S k := fun k hk => AllLe.of fun s hs => Nat.le_trans (hSS s hs) hk
 obtain ⟨bi, hbi⟩ := own_exG hy hil
 have hrowi := rowG hbi
 have hkk : x.kids.length = x.binds.length + 1 := by have := hsh.lets ho; omega
 have hes : eStat e.length (ixF e) i x = ((List.range x.binds.length).map fun k => (ixF e (x.binds.getD k 0), kidN x k)) ++ [(i, kidN x x.binds.length)] := by
  unfold eStat
  rw [if_neg (by omega), if_pos (by omega), hkk, Nat.add_sub_cancel]
 rw [hes]
 refine enter Tryd.func20 rfl Tryd.ntmps20 rfl hc ?_
 (simp only [argEnv, Nat.zero_add, Nat.reduceAdd])
 unfold flG GY.c exC
 apply W.sr
 apply OL.box; rfl; rfl; exact CellsL.one rfl; (intro bk hbk; have hbk0 := hbk.mem s0 hs0)
 apply OL.box; rfl; rfl; exact CellsL.agg; (intro bk hbk; have hbk0 := hbk.mem s0 hs0)
 apply OL.nsr
 apply old; rfl; rfl; exact .tail _ (.head _); rfl; rfl
 apply oop; rfl; apply Pev.nil_ptr; rfl; exact yes
 apply ofa; rfl; rfl; rfl
 apply old; rfl; rfl; exact .tail _ (.tail _ (.head _)); rfl; rfl
 apply omv; rfl; rfl
 apply oop; rfl; apply Pev.idxB; rfl; exact yes; rfl; exact yes; rfl; intro hcond; omega; rfl
 apply oop; rfl; apply Pev.load_row; rfl; exact yes; apply List.Mem.tail; apply List.Mem.tail; exact .tail _ (.tail _ (.head _)); rfl; assumption
 apply oas; rfl; rfl
 apply OL.nsr
 apply oop; rfl; apply Pev.makeFunc; exact Args.au; exact Args.au
 apply oas; rfl; rfl
 apply OL.nsr
 apply ofa; rfl; rfl; rfl
 apply old; rfl; rfl; exact .head _; rfl; rfl
 apply OL.nx
 apply W.block
 refine W.no ?_
 refine W.no ?_
 apply W.seq
 refine W.yes ?_
 apply W.sk
 refine W.cT ?_
 apply W.seq
 apply W.sr
 apply ofa; rfl; rfl; rfl
 apply old; rfl; rfl; exact .head _; rfl; rfl
 apply oop; rfl; apply Pev.len_slice; rfl; exact yes; rfl
 apply omv; rfl; rfl
 apply OL.nx
 apply W.block
 revert hbk0
 revert bk
 revert hbk0
 revert bk
 intro b3 hb3 hb30 b5 hb5 hb50
 refine W.loop (G := Nat × GS) (fun G => G.1 ≤ x.binds.length ∧ RStep e s ((List.range G.1).map fun k => (ixF e (x.binds.getD k 0), kidN x k)) G.2) (fun G => x.binds.length - G.1)
  (fun G => [(3, true, .pointer (some ⟨b3, 0, none⟩)), (5, true, .pointer (some ⟨b5, 0, none⟩)), (6, true, slG y.N.length bi), (7, true, .func (.func 32) #[] #[.pointer (some ⟨b3, 0, none⟩), .pointer (some ⟨b5, 0, none⟩)]), (47, true, .slice xy.b.1 x.binds.length xy.b.2), (48, true, .int .i64 (x.binds.length : Int)), (49, true, .int .i64 (G.1 : Int))])
  (fun G => Cls (cbI y b3 b5 x xy (flG e y G.2 H)) S) (0, s) ⟨Nat.zero_le _, .nil hs⟩ (by exact Sub.au) (fun w' hw' => hw') ?_
 rintro ⟨k, s1⟩ ⟨hk, hst⟩
 simp only at hk hst ⊢
 have hs1 := hst.ok
 unfold cbI flG GY.c
 apply W.sr
 apply obn; rfl; rfl; rfl; apply Bin.lss
 apply OL.nx
 apply W.seq
 (refine W.cnd (fun hlt => ?_) (fun hlt => ?_)) <;> (try (exfalso; first | omega | exact hlt trivial | contradiction))
 ·obtain ⟨bk1, hbk1⟩ := kid_exG hy hx (k := k) (by omega)
  obtain ⟨av, v, hqv, habv, hv, hcellv⟩ := hok.b.get (show k < x.binds.length by omega)
  have habv : av.block < s0.heap.size := habv
  have hcellv : s0.cell? (av.add (k * 1)) = some (.int .i64 v) := hcellv
  have hgv : x.binds.getD k 0 = v := by rw [List.getD_eq_getElem?_getD, hv]; rfl
  have hid : v ∈ e.flatMap bindersX := FOk.bind hx (by omega) (List.mem_of_getElem? hv)
  obtain ⟨bd, hbd⟩ := GD_ex hy hid
  rw [hqv]
  apply W.sk
  apply W.sb
  apply W.sr
  apply omv; rfl; rfl
  apply oop; rfl; apply Pev.idx; rfl; exact yes; rfl; exact yes; rfl; rfl; intro hcond; omega
  apply oop; rfl; apply Pev.load_kept; rfl; exact yes; assumption; rfl; intro hcond; assumption; intro hcond; (rw [add_block]; assumption); intro hcond; (focus ((try simp only [add_block]); (repeat (first | exact NotOwned.nil | exact hno _ (by omega) | exact hnr _ (by omega) | refine NotOwned.any (hXn _ (by omega)) ?_ | refine NotOwned.blk (by omega) ?_ | refine NotOwned.row (by omega) ?_ | refine NotOwned.rws (by omega) ?_ | refine NotOwned.pile (by omega) ?_ | refine NotOwned.pool (by omega) ?_ | refine NotOwned.bag (by omega) ?_ | refine NotOwned.mapI (by omega) ?_ | apply NotOwned.bif | refine NotOwned.nothing ?_)); done))
  apply oas; rfl; rfl
  apply oas; rfl; rfl
  apply OL.nx
  rw [← hqv]
  refine W.regn 7 (by (repeat (first | exact SplitN.z | apply SplitN.s))) (by kernel_rfl) (by decide +kernel) (fun w hw => hw.drew) ?_
  apply qld; rfl; rfl; exact .tail _ (.head _); rfl; rfl
  apply qld; rfl; rfl; exact .tail _ (.head _); rfl; rfl
  apply qmv; rfl; rfl
  (((first | (with_reducible apply OL.op) | (with_reducible apply QL.op)); (exact Guard.au); rfl; rfl); (exact Pev.call (v := slG y.N.length bd) rfl (by exact Args.au) (fun _ w2 hw2 => identB_calls e y s1 hy v hid bd hbd b3 b5 x xy H S w2 hw2)))
  apply qmv; rfl; rfl
  apply qmv; rfl; rfl
  (((first | (with_reducible apply OL.op) | (with_reducible apply QL.op)); (exact Guard.au); rfl; rfl); (exact Pev.callv (first := []) (cap := [.pointer (some ⟨b3, 0, none⟩), .pointer (some ⟨b5, 0, none⟩)]) (v := slG y.N.length bk1) rfl (by (first | exact fun _ => rfl | exact fun h => h | (intro h; simp_all; done))) rfl (by exact Args.au) (fun _ w2 hw2 => kidV_calls s0 e y hy hyB hbs i x xy hx hok b3 b5 hb30 hb50 s1 k (by omega) bk1 hbk1 H hno S hs0 w2 hw2)))
  with_reducible apply QL.tail
  refine OL.callE (α := Unit) (fun _ => .tuple #[]) (fun _ => GSOk e (s1.into (ixF e v) (kidN x k))) (fun _ => Cls (cbI y b3 b5 x xy (flG e y (s1.into (ixF e v) (kidN x k)) H)) S) rfl rfl (by exact Args.au) (fun w2 hw2 => toB_calls e y _ hy (by assumption) (ixF e v) bd (kidN x k) bk1 (GP_id hy hbd) (GP_node hbk1) b3 b5 x xy H S w2 hw2) ?_
  rintro ⟨⟩ hs2
  apply OL.nil
  with_reducible apply At.in_normal
  with_reducible apply At.next
  apply W.reg
  apply obn; rfl; rfl; rfl; apply Bin.add_in; omega
  apply omv; rfl; rfl
  apply OL.nil
  refine At.again (k + 1, s1.into (ixF e v) (kidN x k)) ⟨by omega, ?_⟩ (by simp only; omega) (by exact Sub.au) (fun w' hw' => hw')
  rw [List.range_succ, List.map_append, List.map_singleton, hgv]
  exact hst.app hs (.one hs2)
 ·obtain rfl : k = x.binds.length := by omega
  obtain ⟨bk1, hbk1⟩ := kid_exG hy hx (k := x.binds.length) (by omega)
  refine W.xt ?_
  with_reducible apply At.next
  refine W.regn 8 (by (repeat (first | exact SplitN.z | apply SplitN.s))) (by kernel_rfl) (by decide +kernel) (fun w hw => hw.drew) ?_
  apply qld; rfl; rfl; exact .tail _ (.head _); rfl; rfl
  apply qmv; rfl; rfl
  apply qmv; rfl; rfl
  apply qfa; rfl; rfl; rfl
  apply qld; rfl; rfl; exact .head _; rfl; rfl
  apply qop; rfl; apply Pev.len_slice; rfl; exact yes; rfl
  apply qbn; rfl; rfl; rfl; apply Bin.sub_in; omega
  rw [show ((x.kids.length : Int) - 1) = (x.binds.length : Int) by omega]
  (((first | (with_reducible apply OL.op) | (with_reducible apply QL.op)); (exact Guard.au); rfl; rfl); (exact Pev.callv (first := []) (cap := [.pointer (some ⟨b3, 0, none⟩), .pointer (some ⟨b5, 0, none⟩)]) (v := slG y.N.length bk1) rfl (by (first | exact fun _ => rfl | exact fun h => h | (intro h; simp_all; done))) rfl (by exact Args.au) (fun _ w2 hw2 => kidV_calls s0 e y hy hyB hbs i x xy hx hok b3 b5 hb30 hb50 s1 x.binds.length (by omega) bk1 hbk1 H hno S hs0 w2 hw2)))
  with_reducible apply QL.tail
  refine OL.callE (α := Unit) (fun _ => .tuple #[]) (fun _ => GSOk e (s1.into i (kidN x x.binds.length))) (fun _ => Cls (cbI y b3 b5 x xy (flG e y (s1.into i (kidN x x.binds.length)) H)) S) rfl rfl (by exact Args.au) (fun w2 hw2 => toB_calls e y _ hy (by assumption) i bi (kidN x x.binds.length) bk1 (GP_node hbi) (GP_node hbk1) b3 b5 x xy H S w2 hw2) ?_
  rintro ⟨⟩ hs2
  apply OL.nil
  with_reducible apply At.in_normal
  refine At.end_ (At.fin0 rfl (fun w' hw' => ⟨_, rfl, hst.app hs (.one hs2), hw'.thin (.any (fun k hk => by rw [show k = b5 from hk]; exact hb5) (.any (fun k hk => by rw [show k = b3 from hk]; exact hb3) .same))⟩))
theorem gnode_rec (s0 : World) (e : List Ex) (y : GY) (hy : GYOk e y) (hyB : s0.heap.size ≤ y.B) (hbs : s0.heap.size ≤ y.bs) (i : Nat) (x : Ex) (xy : ExY) (hx : e[i]? = some x) (hok : ExOk s0 (low s0) x xy) (ho : x.op = 5)
  (s : GS) (hs : GSOk e s) (H : List Eng.Item) (hno : ∀ k, k < s0.heap.size → NotOwned H k) (S : List World) (hs0 : s0 ∈ S) (hSS : ∀ s ∈ S, s.heap.size ≤ s0.heap.size) (w : World) (hc : Cls (flG e y s H) S w) :
  Calls Tryd.prog 20 [.pointer (some ⟨y.bs, 0, none⟩), .int .i64 (i : Int), .agg (exC x xy).toArray].toArray w fun r w' => ∃ s', r = .returned (.tuple #[]) ∧ RStep e s (eStat e.length (ixF e) i x) s' ∧ Cls (flG e y s' H) S w' := by
 have hsh := hy.ok.sh i x hx
 have hn := hy.len
 have hlen := hy.ok.len
 have hil := (List.getElem?_eq_some_iff.1 hx).1
 have hkl := hok.kl
 have hbl := hok.bl
 have hLim : ∀ k, s0.heap.size ≤ k → AllLe S k := fun k hk => AllLe.of fun s hs => Nat.le_trans (hSS s hs) hk
 obtain ⟨bi, hbi⟩ := own_exG hy hil
 have hrowi := rowG hbi
 have hkk : x.kids.length = x.binds.length + 1 := by have := hsh.recs ho; omega
 have hes : eStat e.length (ixF e) i x = ((List.range x.binds.length).map fun k => (ixF e (x.binds.getD k 0), kidN x k)) ++ [(i, kidN x x.binds.length)] := by
  unfold eStat
  rw [if_neg (by omega), if_pos (by omega), hkk, Nat.add_sub_cancel]
 rw [hes]
 refine enter Tryd.func20 rfl Tryd.ntmps20 rfl hc ?_
 (simp only [argEnv, Nat.zero_add, Nat.reduceAdd])
 unfold flG GY.c exC
 apply W.sr
 apply OL.box; rfl; rfl; exact CellsL.one rfl; (intro bk hbk; have hbk0 := hbk.mem s0 hs0)
 apply OL.box; rfl; rfl; exact CellsL.agg; (intro bk hbk; have hbk0 := hbk.mem s0 hs0)
 apply OL.nsr
 apply old; rfl; rfl; exact .tail _ (.head _); rfl; rfl
 apply oop; rfl; apply Pev.nil_ptr; rfl; exact yes
 apply ofa; rfl; rfl; rfl
 apply old; rfl; rfl; exact .tail _ (.tail _ (.head _)); rfl; rfl
 apply omv; rfl; rfl
 apply oop; rfl; apply Pev.idxB; rfl; exact yes; rfl; exact yes; rfl; intro hcond; omega; rfl
 apply oop; rfl; apply Pev.load_row; rfl; exact yes; apply List.Mem.tail; apply List.Mem.tail; exact .tail _ (.tail _ (.head _)); rfl; assumption
 apply oas; rfl; rfl
 apply OL.nsr
 apply oop; rfl; apply Pev.makeFunc; exact Args.au; exact Args.au
 apply oas; rfl; rfl
 apply OL.nsr
 apply ofa; rfl; rfl; rfl
 apply old; rfl; rfl; exact .head _; rfl; rfl
 apply OL.nx
 apply W.block
 refine W.no ?_
 refine W.no ?_
 apply W.seq
 refine W.no ?_
 refine W.yesR ?_
 with_reducible apply At.next
 refine W.cT ?_
 apply W.seq
 apply W.sr
 apply ofa; rfl; rfl; rfl
 apply old; rfl; rfl; exact .head _; rfl; rfl
 apply oop; rfl; apply Pev.len_slice; rfl; exact yes; rfl
 apply omv; rfl; rfl
 apply OL.nx
 apply W.block
 revert hbk0
 revert bk
 revert hbk0
 revert bk
 intro b3 hb3 hb30 b5 hb5 hb50
 refine W.loop (G := Nat × GS) (fun G => G.1 ≤ x.binds.length ∧ RStep e s ((List.range G.1).map fun k => (ixF e (x.binds.getD k 0), kidN x k)) G.2) (fun G => x.binds.length - G.1)
  (fun G => [(3, true, .pointer (some ⟨b3, 0, none⟩)), (5, true, .pointer (some ⟨b5, 0, none⟩)), (6, true, slG y.N.length bi), (7, true, .func (.func 32) #[] #[.pointer (some ⟨b3, 0, none⟩), .pointer (some ⟨b5, 0, none⟩)]), (47, true, .slice xy.b.1 x.binds.length xy.b.2), (48, true, .int .i64 (x.binds.length : Int)), (49, true, .int .i64 (G.1 : Int))])
  (fun G => Cls (cbI y b3 b5 x xy (flG e y G.2 H)) S) (0, s) ⟨Nat.zero_le _, .nil hs⟩ (by exact Sub.au) (fun w' hw' => hw') ?_
 rintro ⟨k, s1⟩ ⟨hk, hst⟩
 simp only at hk hst ⊢
 have hs1 := hst.ok
 unfold cbI flG GY.c
 apply W.sr
 apply obn; rfl; rfl; rfl; apply Bin.lss
 apply OL.nx
 apply W.seq
 (refine W.cnd (fun hlt => ?_) (fun hlt => ?_)) <;> (try (exfalso; first | omega | exact hlt trivial | contradiction))
 ·obtain ⟨bk1, hbk1⟩ := kid_exG hy hx (k := k) (by omega)
  obtain ⟨av, v, hqv, habv, hv, hcellv⟩ := hok.b.get (show k < x.binds.length by omega)
  have habv : av.block < s0.heap.size := habv
  have hcellv : s0.cell? (av.add (k * 1)) = some (.int .i64 v) := hcellv
  have hgv : x.binds.getD k 0 = v := by rw [List.getD_eq_getElem?_getD, hv]; rfl
  have hid : v ∈ e.flatMap bindersX := FOk.bind hx (by omega) (List.mem_of_getElem? hv)
  obtain ⟨bd, hbd⟩ := GD_ex hy hid
  rw [hqv]
  apply W.sk
  apply W.sb
  apply W.sr
  apply omv; rfl; rfl
  apply oop; rfl; apply Pev.idx; rfl; exact yes; rfl; exact yes; rfl; rfl; intro hcond; omega
  apply oop; rfl; apply Pev.load_kept; rfl; exact yes; assumption; rfl; intro hcond; assumption; intro hcond; (rw [add_block]; assumption); intro hcond; (focus ((try simp only [add_block]); (repeat (first | exact NotOwned.nil | exact hno _ (by omega) | exact hnr _ (by omega) | refine NotOwned.any (hXn _ (by omega)) ?_ | refine NotOwned.blk (by omega) ?_ | refine NotOwned.row (by omega) ?_ | refine NotOwned.rws (by omega) ?_ | refine NotOwned.pile (by omega) ?_ | refine NotOwned.pool (by omega) ?_ | refine NotOwned.bag (by omega) ?_ | refine NotOwned.mapI (by omega) ?_ | apply NotOwned.bif | refine NotOwned.nothing ?_)); done))
  apply oas; rfl; rfl
  apply oas; rfl; rfl
  apply OL.nx
  rw [← hqv]
  refine W.regn 7 (by (repeat (first | exact SplitN.z | apply SplitN.s))) (by kernel_rfl) (by decide +kernel) (fun w hw => hw.drew) ?_
  apply qld; rfl; rfl; exact .tail _ (.head _); rfl; rfl
  apply qld; rfl; rfl; exact .tail _ (.head _); rfl; rfl
  apply qmv; rfl; rfl
  (((first | (with_reducible apply OL.op) | (with_reducible apply QL.op)); (exact Guard.au); rfl; rfl); (exact Pev.call (v := slG y.N.length bd) rfl (by exact Args.au) (fun _ w2 hw2 => identB_calls e y s1 hy v hid bd hbd b3 b5 x xy H S w2 hw2)))
  apply qmv; rfl; rfl
  apply qmv; rfl; rfl
  (((first | (with_reducible apply OL.op) | (with_reducible apply QL.op)); (exact Guard.au); rfl; rfl); (exact Pev.callv (first := []) (cap := [.pointer (some ⟨b3, 0, none⟩), .pointer (some ⟨b5, 0, none⟩)]) (v := slG y.N.length bk1) rfl (by (first | exact fun _ => rfl | exact fun h => h | (intro h; simp_all; done))) rfl (by exact Args.au) (fun _ w2 hw2 => kidV_calls s0 e y hy hyB hbs i x xy hx hok b3 b5 hb30 hb50 s1 k (by omega) bk1 hbk1 H hno S hs0 w2 hw2)))
  with_reducible apply QL.tail
  refine OL.callE (α := Unit) (fun _ => .tuple #[]) (fun _ => GSOk e (s1.into (ixF e v) (kidN x k))) (fun _ => Cls (cbI y b3 b5 x xy (flG e y (s1.into (ixF e v) (kidN x k)) H)) S) rfl rfl (by exact Args.au) (fun w2 hw2 => toB_calls e y _ hy (by assumption) (ixF e v) bd (kidN x k) bk1 (GP_id hy hbd) (GP_node hbk1) b3 b5 x xy H S w2 hw2) ?_
  rintro ⟨⟩ hs2
  apply OL.nil
  with_reducible apply At.in_normal
  with_reducible apply At.next
  apply W.reg
  apply obn; rfl; rfl; rfl; apply Bin.add_in; omega
  apply omv; rfl; rfl
  apply OL.nil
  refine At.again (k + 1, s1.into (ixF e v) (kidN x k)) ⟨by omega, ?_⟩ (by simp only; omega) (by exact Sub.au) (fun w' hw' => hw')
  rw [List.range_succ, List.map_append, List.map_singleton, hgv]
  exact hst.app hs (.one hs2)
 ·obtain rfl : k = x.binds.length := by omega
  obtain ⟨bk1, hbk1⟩ := kid_exG hy hx (k := x.binds.length) (by omega)
  refine W.xt ?_
  with_reducible apply At.next
  refine W.regn 8 (by (repeat (first | exact SplitN.z | apply SplitN.s))) (by kernel_rfl) (by decide +kernel) (fun w hw => hw.drew) ?_
  apply qld; rfl; rfl; exact .tail _ (.head _); rfl; rfl
  apply qmv; rfl; rfl
  apply qmv; rfl; rfl
  apply qfa; rfl; rfl; rfl
  apply qld; rfl; rfl; exact .head _; rfl; rfl
  apply qop; rfl; apply Pev.len_slice; rfl; exact yes; rfl
  apply qbn; rfl; rfl; rfl; apply Bin.sub_in; omega
  rw [show ((x.kids.length : Int) - 1) = (x.binds.length : Int) by omega]
  (((first | (with_reducible apply OL.op) | (with_reducible apply QL.op)); (exact Guard.au); rfl; rfl); (exact Pev.callv (first := []) (cap := [.pointer (some ⟨b3, 0, none⟩), .pointer (some ⟨b5, 0, none⟩)]) (v := slG y.N.length bk1) rfl (by (first | exact fun _ => rfl | exact fun h => h | (intro h; simp_all; done))) rfl (by exact Args.au) (fun _ w2 hw2 => kidV_calls s0 e y hy hyB hbs i x xy hx hok b3 b5 hb30 hb50 s1 x.binds.length (by omega) bk1 hbk1 H hno S hs0 w2 hw2)))
  with_reducible apply QL.tail
  refine OL.callE (α := Unit) (fun _ => .tuple #[]) (fun _ => GSOk e (s1.into i (kidN x x.binds.length))) (fun _ => Cls (cbI y b3 b5 x xy (flG e y (s1.into i (kidN x x.binds.length)) H)) S) rfl rfl (by exact Args.au) (fun w2 hw2 => toB_calls e y _ hy (by assumption) i bi (kidN x x.binds.length) bk1 (GP_node hbi) (GP_node hbk1) b3 b5 x xy H S w2 hw2) ?_
  rintro ⟨⟩ hs2
  apply OL.nil
  with_reducible apply At.in_normal
  refine At.end_ (At.fin0 rfl (fun w' hw' => ⟨_, rfl, hst.app hs (.one hs2), hw'.thin (.any (fun k hk => by rw [show k = b5 from hk]; exact hb5) (.any (fun k hk => by rw [show k = b3 from hk]; exact hb3) .same))⟩))
theorem gnode_con (s0 : World) (e : List Ex) (y : GY) (hy : GYOk e y) (hyB : s0.heap.size ≤ y.B) (hbs : s0.heap.size ≤ y.bs) (i : Nat) (x : Ex) (xy : ExY) (hx : e[i]? = some x) (hok : ExOk s0 (low s0) x xy) (ho : x.op = 6)
  (s : GS) (hs : GSOk e s) (H : List Eng.Item) (hno : ∀ k, k < s0.heap.size → NotOwned H k) (S : List World) (hs0 : s0 ∈ S) (hSS : ∀ s ∈ S, s.heap.size ≤ s0.heap.size) (w : World) (hc : Cls (flG e y s H) S w) :
  Calls Tryd.prog 20 [.pointer (some ⟨y.bs, 0, none⟩), .int .i64 (i : Int), .agg (exC x xy).toArray].toArray w fun r w' => ∃ s', r = .returned (.tuple #[]) ∧ RStep e s (eStat e.length (ixF e) i x) s' ∧ Cls (flG e y s' H) S w' := by
 have hsh := hy.ok.sh i x hx
 have hn := hy.len
 have hlen := hy.ok.len
 have hil := (List.getElem?_eq_some_iff.1 hx).1
 have hkl := hok.kl
 have hbl := hok.bl
 have hLim : ∀ k, s0.heap.size ≤ k → AllLe S k := fun k hk => AllLe.of fun s hs => Nat.le_trans (hSS s hs) hk
 obtain ⟨bi, hbi⟩ := own_exG hy hil
 have hrowi := rowG hbi
 have hes : eStat e.length (ixF e) i x = (List.range x.kids.length).map fun k => (e.length, kidN x k) := by
  unfold eStat
  simp [ho]
 rw [hes]
 refine enter Tryd.func20 rfl Tryd.ntmps20 rfl hc ?_
 (simp only [argEnv, Nat.zero_add, Nat.reduceAdd])
 unfold flG GY.c exC
 apply W.sr
 apply OL.box; rfl; rfl; exact CellsL.one rfl; (intro bk hbk; have hbk0 := hbk.mem s0 hs0)
 apply OL.box; rfl; rfl; exact CellsL.agg; (intro bk hbk; have hbk0 := hbk.mem s0 hs0)
 apply OL.nsr
 apply old; rfl; rfl; exact .tail _ (.head _); rfl; rfl
 apply oop; rfl; apply Pev.nil_ptr; rfl; exact yes
 apply ofa; rfl; rfl; rfl
 apply old; rfl; rfl; exact .tail _ (.tail _ (.head _)); rfl; rfl
 apply omv; rfl; rfl
 apply oop; rfl; apply Pev.idxB; rfl; exact yes; rfl; exact yes; rfl; intro hcond; omega; rfl
 apply oop; rfl; apply Pev.load_row; rfl; exact yes; apply List.Mem.tail; apply List.Mem.tail; exact .tail _ (.tail _ (.head _)); rfl; assumption
 apply oas; rfl; rfl
 apply OL.nsr
 apply oop; rfl; apply Pev.makeFunc; exact Args.au; exact Args.au
 apply oas; rfl; rfl
 apply OL.nsr
 apply ofa; rfl; rfl; rfl
 apply old; rfl; rfl; exact .head _; rfl; rfl
 apply OL.nx
 apply W.block
 refine W.no ?_
 refine W.no ?_
 apply W.seq
 refine W.no ?_
 refine W.noR ?_
 with_reducible apply At.next
 refine W.cF ?_
 refine W.no ?_
 apply W.seq
 refine W.yes ?_
 apply W.sk
 refine W.cT ?_
 apply W.sr
 apply ofa; rfl; rfl; rfl
 apply old; rfl; rfl; exact .head _; rfl; rfl
 apply oop; rfl; apply Pev.len_slice; rfl; exact yes; rfl
 apply omv; rfl; rfl
 apply OL.nx
 apply W.block
 revert hbk0
 revert bk
 revert hbk0
 revert bk
 intro b3 hb3 hb30 b5 hb5 hb50
 refine W.loop (G := Nat × GS) (fun G => G.1 ≤ x.kids.length ∧ RStep e s ((List.range G.1).map fun k => (e.length, kidN x k)) G.2) (fun G => x.kids.length - G.1)
  (fun G => [(3, true, .pointer (some ⟨b3, 0, none⟩)), (7, true, .func (.func 32) #[] #[.pointer (some ⟨b3, 0, none⟩), .pointer (some ⟨b5, 0, none⟩)]), (83, true, .int .i64 (x.kids.length : Int)), (84, true, .int .i64 (G.1 : Int))])
  (fun G => Cls (cbI y b3 b5 x xy (flG e y G.2 H)) S) (0, s) ⟨Nat.zero_le _, .nil hs⟩ (by exact Sub.au) (fun w' hw' => hw') ?_
 rintro ⟨k, s1⟩ ⟨hk, hst⟩
 simp only at hk hst ⊢
 have hs1 := hst.ok
 unfold cbI flG GY.c
 apply W.sr
 apply obn; rfl; rfl; rfl; apply Bin.lss
 apply OL.nx
 apply W.seq
 (refine W.cnd (fun hlt => ?_) (fun hlt => ?_)) <;> (try (exfalso; first | omega | exact hlt trivial | contradiction))
 ·obtain ⟨bk1, hbk1⟩ := kid_exG hy hx (k := k) (by omega)
  apply W.sk
  apply W.sb
  apply W.sr
  apply omv; rfl; rfl
  apply oas; rfl; rfl
  apply OL.nx
  refine W.regn 8 (by (repeat (first | exact SplitN.z | apply SplitN.s))) (by kernel_rfl) (by decide +kernel) (fun w hw => hw.drew) ?_
  apply qld; rfl; rfl; exact .tail _ (.head _); rfl; rfl
  apply qld; rfl; rfl; exact .tail _ (.head _); rfl; rfl
  apply qop; rfl; apply Pev.nil_ptr; rfl; exact yes
  apply qfa; rfl; rfl; rfl
  apply qld; rfl; rfl; exact .tail _ (.tail _ (.head _)); rfl; rfl
  apply qmv; rfl; rfl
  apply qmv; rfl; rfl
  (((first | (with_reducible apply OL.op) | (with_reducible apply QL.op)); (exact Guard.au); rfl; rfl); (exact Pev.callv (first := []) (cap := [.pointer (some ⟨b3, 0, none⟩), .pointer (some ⟨b5, 0, none⟩)]) (v := slG y.N.length bk1) rfl (by (first | exact fun _ => rfl | exact fun h => h | (intro h; simp_all; done))) rfl (by exact Args.au) (fun _ w2 hw2 => kidV_calls s0 e y hy hyB hbs i x xy hx hok b3 b5 hb30 hb50 s1 k (by omega) bk1 hbk1 H hno S hs0 w2 hw2)))
  with_reducible apply QL.tail
  refine OL.callE (α := Unit) (fun _ => .tuple #[]) (fun _ => GSOk e (s1.into e.length (kidN x k))) (fun _ => Cls (cbI y b3 b5 x xy (flG e y (s1.into e.length (kidN x k)) H)) S) rfl rfl (by exact Args.au) (fun w2 hw2 => toB_calls e y _ hy (by assumption) e.length y.bh (kidN x k) bk1 (by rw [← hn]; exact GP_heap) (GP_node hbk1) b3 b5 x xy H S w2 hw2) ?_
  rintro ⟨⟩ hs2
  apply OL.nil
  with_reducible apply At.in_normal
  with_reducible apply At.next
  apply W.reg
  apply obn; rfl; rfl; rfl; apply Bin.add_in; omega
  apply omv; rfl; rfl
  apply OL.nil
  refine At.again (k + 1, s1.into e.length (kidN x k)) ⟨by omega, ?_⟩ (by simp only; omega) (by exact Sub.au) (fun w' hw' => hw')
  rw [List.range_succ, List.map_append, List.map_singleton]
  exact hst.app hs (.one hs2)
 ·obtain rfl : k = x.kids.length := by omega
  refine W.xt ?_
  with_reducible apply At.in_normal
  refine At.end_ (At.fin0 rfl (fun w' hw' => ⟨_, rfl, hst, hw'.thin (.any (fun k hk => by rw [show k = b5 from hk]; exact hb5) (.any (fun k hk => by rw [show k = b3 from hk]; exact hb3) .same))⟩))
theorem gnode_row (s0 : World) (e : List Ex) (y : GY) (hy : GYOk e y) (hyB : s0.heap.size ≤ y.B) (hbs : s0.heap.size ≤ y.bs) (i : Nat) (x : Ex) (xy : ExY) (hx : e[i]? = some x) (hok : ExOk s0 (low s0) x xy) (ho : x.op = 9)
  (s : GS) (hs : GSOk e s) (H : List Eng.Item) (hno : ∀ k, k < s0.heap.size → NotOwned H k) (S : List World) (hs0 : s0 ∈ S) (hSS : ∀ s ∈ S, s.heap.size ≤ s0.heap.size) (w : World) (hc : Cls (flG e y s H) S w) :
  Calls Tryd.prog 20 [.pointer (some ⟨y.bs, 0, none⟩), .int .i64 (i : Int), .agg (exC x xy).toArray].toArray w fun r w' => ∃ s', r = .returned (.tuple #[]) ∧ RStep e s (eStat e.length (ixF e) i x) s' ∧ Cls (flG e y s' H) S w' := by
 have hsh := hy.ok.sh i x hx
 have hn := hy.len
 have hlen := hy.ok.len
 have hil := (List.getElem?_eq_some_iff.1 hx).1
 have hkl := hok.kl
 have hbl := hok.bl
 have hLim : ∀ k, s0.heap.size ≤ k → AllLe S k := fun k hk => AllLe.of fun s hs => Nat.le_trans (hSS s hs) hk
 obtain ⟨bi, hbi⟩ := own_exG hy hil
 have hrowi := rowG hbi
 have hes : eStat e.length (ixF e) i x = (List.range x.kids.length).map fun k => (e.length, kidN x k) := by
  unfold eStat
  simp [ho]
 rw [hes]
 refine enter Tryd.func20 rfl Tryd.ntmps20 rfl hc ?_
 (simp only [argEnv, Nat.zero_add, Nat.reduceAdd])
 unfold flG GY.c exC
 apply W.sr
 apply OL.box; rfl; rfl; exact CellsL.one rfl; (intro bk hbk; have hbk0 := hbk.mem s0 hs0)
 apply OL.box; rfl; rfl; exact CellsL.agg; (intro bk hbk; have hbk0 := hbk.mem s0 hs0)
 apply OL.nsr
 apply old; rfl; rfl; exact .tail _ (.head _); rfl; rfl
 apply oop; rfl; apply Pev.nil_ptr; rfl; exact yes
 apply ofa; rfl; rfl; rfl
 apply old; rfl; rfl; exact .tail _ (.tail _ (.head _)); rfl; rfl
 apply omv; rfl; rfl
 apply oop; rfl; apply Pev.idxB; rfl; exact yes; rfl; exact yes; rfl; intro hcond; omega; rfl
 apply oop; rfl; apply Pev.load_row; rfl; exact yes; apply List.Mem.tail; apply List.Mem.tail; exact .tail _ (.tail _ (.head _)); rfl; assumption
 apply oas; rfl; rfl
 apply OL.nsr
 apply oop; rfl; apply Pev.makeFunc; exact Args.au; exact Args.au
 apply oas; rfl; rfl
 apply OL.nsr
 apply ofa; rfl; rfl; rfl
 apply old; rfl; rfl; exact .head _; rfl; rfl
 apply OL.nx
 apply W.block
 refine W.no ?_
 refine W.no ?_
 apply W.seq
 refine W.no ?_
 refine W.noR ?_
 with_reducible apply At.next
 refine W.cF ?_
 refine W.no ?_
 apply W.seq
 refine W.no ?_
 refine W.yesR ?_
 with_reducible apply At.next
 refine W.cT ?_
 apply W.sr
 apply ofa; rfl; rfl; rfl
 apply old; rfl; rfl; exact .head _; rfl; rfl
 apply oop; rfl; apply Pev.len_slice; rfl; exact yes; rfl
 apply omv; rfl; rfl
 apply OL.nx
 apply W.block
 revert hbk0
 revert bk
 revert hbk0
 revert bk
 intro b3 hb3 hb30 b5 hb5 hb50
 refine W.loop (G := Nat × GS) (fun G => G.1 ≤ x.kids.length ∧ RStep e s ((List.range G.1).map fun k => (e.length, kidN x k)) G.2) (fun G => x.kids.length - G.1)
  (fun G => [(3, true, .pointer (some ⟨b3, 0, none⟩)), (7, true, .func (.func 32) #[] #[.pointer (some ⟨b3, 0, none⟩), .pointer (some ⟨b5, 0, none⟩)]), (83, true, .int .i64 (x.kids.length : Int)), (84, true, .int .i64 (G.1 : Int))])
  (fun G => Cls (cbI y b3 b5 x xy (flG e y G.2 H)) S) (0, s) ⟨Nat.zero_le _, .nil hs⟩ (by exact Sub.au) (fun w' hw' => hw') ?_
 rintro ⟨k, s1⟩ ⟨hk, hst⟩
 simp only at hk hst ⊢
 have hs1 := hst.ok
 unfold cbI flG GY.c
 apply W.sr
 apply obn; rfl; rfl; rfl; apply Bin.lss
 apply OL.nx
 apply W.seq
 (refine W.cnd (fun hlt => ?_) (fun hlt => ?_)) <;> (try (exfalso; first | omega | exact hlt trivial | contradiction))
 ·obtain ⟨bk1, hbk1⟩ := kid_exG hy hx (k := k) (by omega)
  apply W.sk
  apply W.sb
  apply W.sr
  apply omv; rfl; rfl
  apply oas; rfl; rfl
  apply OL.nx
  refine W.regn 8 (by (repeat (first | exact SplitN.z | apply SplitN.s))) (by kernel_rfl) (by decide +kernel) (fun w hw => hw.drew) ?_
  apply qld; rfl; rfl; exact .tail _ (.head _); rfl; rfl
  apply qld; rfl; rfl; exact .tail _ (.head _); rfl; rfl
  apply qop; rfl; apply Pev.nil_ptr; rfl; exact yes
  apply qfa; rfl; rfl; rfl
  apply qld; rfl; rfl; exact .tail _ (.tail _ (.head _)); rfl; rfl
  apply qmv; rfl; rfl
  apply qmv; rfl; rfl
  (((first | (with_reducible apply OL.op) | (with_reducible apply QL.op)); (exact Guard.au); rfl; rfl); (exact Pev.callv (first := []) (cap := [.pointer (some ⟨b3, 0, none⟩), .pointer (some ⟨b5, 0, none⟩)]) (v := slG y.N.length bk1) rfl (by (first | exact fun _ => rfl | exact fun h => h | (intro h; simp_all; done))) rfl (by exact Args.au) (fun _ w2 hw2 => kidV_calls s0 e y hy hyB hbs i x xy hx hok b3 b5 hb30 hb50 s1 k (by omega) bk1 hbk1 H hno S hs0 w2 hw2)))
  with_reducible apply QL.tail
  refine OL.callE (α := Unit) (fun _ => .tuple #[]) (fun _ => GSOk e (s1.into e.length (kidN x k))) (fun _ => Cls (cbI y b3 b5 x xy (flG e y (s1.into e.length (kidN x k)) H)) S) rfl rfl (by exact Args.au) (fun w2 hw2 => toB_calls e y _ hy (by assumption) e.length y.bh (kidN x k) bk1 (by rw [← hn]; exact GP_heap) (GP_node hbk1) b3 b5 x xy H S w2 hw2) ?_
  rintro ⟨⟩ hs2
  apply OL.nil
  with_reducible apply At.in_normal
  with_reducible apply At.next
  apply W.reg
  apply obn; rfl; rfl; rfl; apply Bin.add_in; omega
  apply omv; rfl; rfl
  apply OL.nil
  refine At.again (k + 1, s1.into e.length (kidN x k)) ⟨by omega, ?_⟩ (by simp only; omega) (by exact Sub.au) (fun w' hw' => hw')
  rw [List.range_succ, List.map_append, List.map_singleton]
  exact hst.app hs (.one hs2)
 ·obtain rfl : k = x.kids.length := by omega
  refine W.xt ?_
  with_reducible apply At.in_normal
  refine At.end_ (At.fin0 rfl (fun w' hw' => ⟨_, rfl, hst, hw'.thin (.any (fun k hk => by rw [show k = b5 from hk]; exact hb5) (.any (fun k hk => by rw [show k = b3 from hk]; exact hb3) .same))⟩))
theorem gnode_lam (s0 : World) (e : List Ex) (y : GY) (hy : GYOk e y) (hyB : s0.heap.size ≤ y.B) (hbs : s0.heap.size ≤ y.bs) (i : Nat) (x : Ex) (xy : ExY) (hx : e[i]? = some x) (hok : ExOk s0 (low s0) x xy) (ho : x.op = 2)
  (s : GS) (hs : GSOk e s) (H : List Eng.Item) (hno : ∀ k, k < s0.heap.size → NotOwned H k) (S : List World) (hs0 : s0 ∈ S) (hSS : ∀ s ∈ S, s.heap.size ≤ s0.heap.size) (w : World) (hc : Cls (flG e y s H) S w) :
  Calls Tryd.prog 20 [.pointer (some ⟨y.bs, 0, none⟩), .int .i64 (i : Int), .agg (exC x xy).toArray].toArray w fun r w' => ∃ s', r = .returned (.tuple #[]) ∧ NStep e s i s' ∧ Cls (flG e y s' H) S w' := by
 have hsh := hy.ok.sh i x hx
 have hn := hy.len
 have hlen := hy.ok.len
 have hil := (List.getElem?_eq_some_iff.1 hx).1
 have hkl := hok.kl
 have hbl := hok.bl
 have hLim : ∀ k, s0.heap.size ≤ k → AllLe S k := fun k hk => AllLe.of fun s hs => Nat.le_trans (hSS s hs) hk
 obtain ⟨bi, hbi⟩ := own_exG hy hil
 have hrowi := rowG hbi
 have hrl : (s.R.getD i []).length = e.length + 1 := hs.dim.at (by unfold rowsN; omega)
 have hF : nodeF true e.length (ixF e) e s.R i = onB s.R i i := by
  unfold nodeF
  rw [hx]
  simp [ho]
 have hL := List.perm_cons_erase (GP_node hbi)
 have hbB := hy.B _ (GP_node hbi)
 refine enter Tryd.func20 rfl Tryd.ntmps20 rfl hc ?_
 (simp only [argEnv, Nat.zero_add, Nat.reduceAdd])
 unfold flG GY.c exC
 apply W.sr
 apply OL.box; rfl; rfl; exact CellsL.one rfl; (intro bk hbk; have hbk0 := hbk.mem s0 hs0)
 apply OL.box; rfl; rfl; exact CellsL.agg; (intro bk hbk; have hbk0 := hbk.mem s0 hs0)
 apply OL.nsr
 apply old; rfl; rfl; exact .tail _ (.head _); rfl; rfl
 apply oop; rfl; apply Pev.nil_ptr; rfl; exact yes
 apply ofa; rfl; rfl; rfl
 apply old; rfl; rfl; exact .tail _ (.tail _ (.head _)); rfl; rfl
 apply omv; rfl; rfl
 apply oop; rfl; apply Pev.idxB; rfl; exact yes; rfl; exact yes; rfl; intro hcond; omega; rfl
 apply oop; rfl; apply Pev.load_row; rfl; exact yes; apply List.Mem.tail; apply List.Mem.tail; exact .tail _ (.tail _ (.head _)); rfl; assumption
 apply oas; rfl; rfl
 apply OL.nsr
 apply oop; rfl; apply Pev.makeFunc; exact Args.au; exact Args.au
 apply oas; rfl; rfl
 apply OL.nsr
 apply ofa; rfl; rfl; rfl
 apply old; rfl; rfl; exact .head _; rfl; rfl
 apply OL.nx
 apply W.block
 refine W.no ?_
 refine W.yes ?_
 apply W.sr
 apply omv; rfl; rfl
 apply omv; rfl; rfl
 apply oop; rfl; apply Pev.idxB; rfl; exact yes; rfl; exact yes; rfl; intro hcond; omega; rfl
 revert hbk0
 revert bk
 revert hbk0
 revert bk
 intro b3 hb3 hb30 b5 hb5 hb50
 obtain ⟨v, hv⟩ : ∃ v, (s.R.getD i [])[i]? = some v := ⟨(s.R.getD i [])[i]'(by omega), List.getElem?_eq_getElem _⟩
 have hvb : (bools (s.R.getD i []))[0 + (i : Int).toNat * 1]? = some (.bool v) := by
  rw [show 0 + (i : Int).toNat * 1 = i by omega]
  exact bools_get hv
 have hrB : hB s.R i i = v := by
  unfold hB
  rw [List.getD_eq_getElem?_getD (l := s.R.getD i []), hv]
  rfl
 refine OL.cls (C' := Cls (blk bi 4 (bools (s.R.getD i [])) :: bag y.B (setsG 4 s.R (y.P.erase (i, bi))) :: blk b5 43 [.int .i64 x.op, .int .i64 x.n, .slice xy.b.1 x.binds.length xy.b.2, .slice xy.k.1 x.kids.length xy.k.2, .slice xy.a.1 x.alts.length xy.a.2] :: blk b3 59 [.pointer (some ⟨y.bs, 0, none⟩)] :: blk y.bs 63 [.slice y.qe y.N.length y.ce, .slice (some ⟨y.gn, 0, none⟩) y.N.length y.cn, .slice y.qi y.D.length y.ci, .slice y.qd y.D.length y.cd, slG y.N.length y.bh, .bool s.mv] :: row y.B y.ON (some ⟨y.gn, 0, none⟩) y.N.length y.cn 60 1 (y.N.map (slG y.N.length)) :: row y.B y.OI y.qi y.D.length y.ci 3 1 (ints (e.flatMap bindersX)) :: row y.B y.OD y.qd y.D.length y.cd 60 1 (y.D.map (slG y.N.length)) :: H) S) (fun w' hw' => ?_) ?_
 ·have h1 := hw'.perm (H' := bag y.B (setsG 4 s.R y.P) :: blk b5 43 [.int .i64 x.op, .int .i64 x.n, .slice xy.b.1 x.binds.length xy.b.2, .slice xy.k.1 x.kids.length xy.k.2, .slice xy.a.1 x.alts.length xy.a.2] :: blk b3 59 [.pointer (some ⟨y.bs, 0, none⟩)] :: blk y.bs 63 [.slice y.qe y.N.length y.ce, .slice (some ⟨y.gn, 0, none⟩) y.N.length y.cn, .slice y.qi y.D.length y.ci, .slice y.qd y.D.length y.cd, slG y.N.length y.bh, .bool s.mv] :: row y.B y.ON (some ⟨y.gn, 0, none⟩) y.N.length y.cn 60 1 (y.N.map (slG y.N.length)) :: row y.B y.OI y.qi y.D.length y.ci 3 1 (ints (e.flatMap bindersX)) :: row y.B y.OD y.qd y.D.length y.cd 60 1 (y.D.map (slG y.N.length)) :: H) ((List.perm_append_comm (l₁ := [_, _, _]) (l₂ := [_])).append_right _)
  exact (h1.bag_perm (hL.map (setG 4 s.R))).bag_out
 have hback : ∀ (s' : GS) (w' : World), (∀ p ∈ y.P.erase (i, bi), s'.R.getD p.1 [] = s.R.getD p.1 []) → Cls (blk bi 4 (bools (s'.R.getD i [])) :: bag y.B (setsG 4 s.R (y.P.erase (i, bi))) :: blk b5 43 [.int .i64 x.op, .int .i64 x.n, .slice xy.b.1 x.binds.length xy.b.2, .slice xy.k.1 x.kids.length xy.k.2, .slice xy.a.1 x.alts.length xy.a.2] :: blk b3 59 [.pointer (some ⟨y.bs, 0, none⟩)] :: blk y.bs 63 [.slice y.qe y.N.length y.ce, .slice (some ⟨y.gn, 0, none⟩) y.N.length y.cn, .slice y.qi y.D.length y.ci, .slice y.qd y.D.length y.cd, slG y.N.length y.bh, .bool s'.mv] :: row y.B y.ON (some ⟨y.gn, 0, none⟩) y.N.length y.cn 60 1 (y.N.map (slG y.N.length)) :: row y.B y.OI y.qi y.D.length y.ci 3 1 (ints (e.flatMap bindersX)) :: row y.B y.OD y.qd y.D.length y.cd 60 1 (y.D.map (slG y.N.length)) :: H) S w' → Cls (cbI y b3 b5 x xy (flG e y s' H)) S w' := fun s' w' hoth hw' => by
  have h1 := hw'.bag_in (fun k hk => by rw [show k = bi from hk]; exact hbB)
  have e1 : blk bi 4 (bools (s'.R.getD i [])) :: setsG 4 s.R (y.P.erase (i, bi)) = setsG 4 s'.R ((i, bi) :: y.P.erase (i, bi)) := by
   have e2 : setsG 4 s.R (y.P.erase (i, bi)) = setsG 4 s'.R (y.P.erase (i, bi)) := List.map_congr_left fun p hp => by unfold setG; rw [hoth p hp]
   rw [e2]
   rfl
  rw [e1] at h1
  have h2 := h1.bag_perm (hL.map (setG 4 s'.R)).symm
  exact h2.perm ((List.perm_append_comm (l₁ := [_]) (l₂ := [_, _, _])).append_right _)
 have hnd : ∀ p ∈ y.P.erase (i, bi), p.1 ≠ i := fun p hp h => by
  have hn2 := ((hL.map Prod.fst).nodup_iff.1 (GP_nodup y))
  rw [List.map_cons, List.nodup_cons] at hn2
  exact hn2.1 (List.mem_map.2 ⟨p, hp, h⟩)
 apply oop; rfl; apply Pev.load_blk; rfl; exact yes; exact .head _; rfl; assumption
 apply oop; rfl; apply Pev.not; rfl; exact yes
 apply OL.nx
 cases v with
 | true =>
  refine W.cond rfl (fun h => by simp at h) (fun _ => ?_)
  apply W.skip
  with_reducible apply At.in_normal
  have hon : onB s.R i i = s.R := by
   refine FLe.anti (hs.dim.on i i) hs.dim (fun p f h => ?_) (.on _ _ _)
   rw [hB_on] at h
   cases h1 : hB s.R p f with
   | true => rfl
   | false =>
    rw [h1] at h
    simp only [Bool.false_or, Bool.and_eq_true, decide_eq_true_eq] at h
    obtain ⟨⟨rfl, rfl⟩, _⟩ := h
    rw [hrB] at h1
    cases h1
  refine At.end_ (At.fin0 rfl (fun w' hw' => ⟨s, rfl, ⟨by rw [hF, hon], by simp, hs⟩, ?_⟩))
  have hw' := hback s w' (fun p hp => rfl) hw'
  exact hw'.thin (.any (fun k hk => by rw [show k = b5 from hk]; exact hb5) (.any (fun k hk => by rw [show k = b3 from hk]; exact hb3) .same))
 | false =>
  refine W.cond rfl (fun _ => ?_) (fun h => by simp at h)
  skip
  refine W.regzC (C0 := Cls [blk b3 59 [.pointer (some ⟨y.bs, 0, none⟩)]] []) (by (repeat (first | exact ZSplit.nil | apply ZSplit.pure rfl | apply ZSplit.tail))) (by kernel_rfl) (by decide +kernel) (fun w hw => hw.drew) (fun w hw => hw.onlyI (by exact mau)) ?_
  apply ZL.op rfl; exact Guard.none; rfl; rfl; apply Pev.move; rfl; exact yes
  apply ZL.op rfl; exact Guard.none; rfl; rfl; apply Pev.move; rfl; exact yes
  apply ZL.ld rfl; exact Guard.none; rfl; rfl; apply Pev.load_blk; rfl; exact yes; exact .head _; rfl; rfl
  apply ZL.op rfl; exact Guard.none; rfl; rfl; apply Pev.idxB; rfl; exact yes; rfl; exact yes; rfl; intro hcond; omega; rfl
  apply ZL.nilC
  apply TL.one rfl
  (apply OL.storeI); rfl; rfl; rfl; rfl; rfl; (exact Swap.au); (rw [bools_len]; omega)
  rw [show 0 + (i : Int).toNat * 1 = i by omega, bools_set]
  refine OL.nil (At.tk (fun w hw => hw.onlyI (by exact mau)) ?_)
  apply TL.one rfl
  apply oop; rfl; apply Pev.nil_ptr; rfl; exact yes
  apply OL.nil
  with_reducible apply At.tn; decide +kernel
  apply TL.one rfl
  apply ofa; rfl; rfl; rfl
  apply OL.nil
  with_reducible apply At.tn; decide +kernel
  apply TL.one rfl
  apply OL.storeB; rfl; rfl; exact CellsL.one rfl; rfl; rfl; rfl; exact Swap.au; exact Put.au
  apply OL.nil
  with_reducible apply At.tn; decide +kernel
  apply TL.nil
  with_reducible apply At.np
  with_reducible apply At.in_normal
  have hon : ¬ onB s.R i i = s.R := fun h => by
   have h2 := hB_on s.R i i i i
   rw [h, hrB, hrl] at h2
   simp at h2
   omega
  refine At.end_ (At.fin0 rfl (fun w' hw' => ⟨⟨onB s.R i i, true⟩, rfl, ⟨hF.symm, (by rw [show decide (onB s.R i i = s.R) = false from decide_eq_false hon]; simp), hs.onB hx ho⟩, ?_⟩))
  have h1 : ((onB s.R i i).getD i []) = (s.R.getD i []).set i true := by
   unfold onB
   have hl : i < s.R.length := by rw [hs.dim.len]; unfold rowsN; omega
   rw [List.getD_eq_getElem?_getD (l := s.R.set i _), List.getElem?_set_self hl]
   rfl
  have hw' := hback ⟨onB s.R i i, true⟩ w' (fun p hp => by
   unfold onB
   simp only [List.getD_eq_getElem?_getD]
   rw [List.getElem?_set_ne (fun h => hnd p hp h.symm)]) (by rw [h1]; exact hw')
  exact hw'.thin (.any (fun k hk => by rw [show k = b5 from hk]; exact hb5) (.any (fun k hk => by rw [show k = b3 from hk]; exact hb3) .same))
end Go.Proofs.YtkpjndhgicbjjaaDoor.co

/- Addresses of elements of a slice whose base is known by a hypothesis. General. No condition. -/
namespace Go.Eng
open Go.RowKit
section
variable {P : Program} {n : Nm} {l : Env} {C : World → Prop} {c : Bool} {d : Option Nat} {ty : TypeId} {pos : String} {af : Array Edge} {g : Option (Nat × Bool)} {t : TypeId} {x y : Operand} {cx cy : Bool}
theorem Pev.idxQ {e : TypeId} {sz m len cp : Nat} {ki : IntKind} {i : Int} {q0 : Option Addr} {q : Addr} (hx : evl l x = some (cx, .slice q0 len cp)) (hcx : c = true → cx = true) (hy : evl l y = some (cy, .int ki i)) (hcy : c = true → cy = true)
  (hq : q0 = some q) (hu : slElem P t = some (e, sz)) (hi : i = (m : Int)) (hm : c = true → m < len) : Pev P n l C ⟨d, .indexAddr t x y, ty, pos, af, g⟩ c (.pointer (some (q.add (m * sz)))) := by
 subst hq
 exact Pev.idx hx hcx hy hcy hu hi hm
end
end Go.Eng

/- The walk of the reference's Flows.app. Conditions: none. -/
namespace Go.Proofs.YtkpjndhgicbjjaaDoor.co
open Go.RowKit Go.Eng Go.Co
set_option maxRecDepth 100000
theorem bagG_cell {e : List Ex} {y : GY} {R : FR} {H : List Eng.Item} {S : List World} {w : World} (hc : Cls H S w) (hm : bag y.B (setsG 4 R y.P) ∈ H) {p b f : Nat} (hp : (p, b) ∈ y.P) {v : Bool} (hv : (R.getD p [])[f]? = some v) : w.cell? ⟨b, 0 + f * 1, none⟩ = some (.bool v) := by
 have h1 := (hc.holds _ hm).1 (setG 4 R (p, b)) (List.mem_map.2 ⟨(p, b), hp, rfl⟩)
 rw [blk_cell h1.1, show 0 + f * 1 = f by omega]
 exact bools_get hv
theorem appG_calls (s0 : World) (es : List (Ex × ExY)) (e : List Ex) (hee : es.map Prod.fst = e) (y : GY) (hy : GYOk e y) (he : Arr exR s0 (low s0) es y.qe) (hyB : s0.heap.size ≤ y.B) (hbs : s0.heap.size ≤ y.bs) (i : Nat) (p : Ex × ExY) (hp : es[i]? = some p) (ho : p.1.op = 3)
  (s : GS) (hs : GSOk e s) (H : List Eng.Item) (hno : ∀ k, k < s0.heap.size → NotOwned H k) (S : List World) (hs0 : s0 ∈ S) (hSS : ∀ s ∈ S, s.heap.size ≤ s0.heap.size) (w : World) (hc : Cls (flG e y s H) S w) :
  Calls Tryd.prog 35 [.pointer (some ⟨y.bs, 0, none⟩), .int .i64 (i : Int), .agg (exC p.1 p.2).toArray].toArray w fun r w' => ∃ s', r = .returned (.tuple #[]) ∧ RStep e s (eApp e.length (ixF e) e s.R i p.1 (e.length + 1)) s' ∧ Cls (flG e y s' H) S w' := by
 have hx : e[i]? = some p.1 := by rw [← hee, List.getElem?_map, hp]; rfl
 have hsh := hy.ok.sh i p.1 hx
 have hn := hy.len
 have hlen := hy.ok.len
 have hk1 := hsh.app ho
 have hil := (List.getElem?_eq_some_iff.1 hx).1
 have hel : e.length = es.length := by rw [← hee, List.length_map]
 obtain ⟨a, p', hqa, hab, hp', hcell, hok⟩ := he.get (show i < es.length by omega)
 rw [hp] at hp'
 obtain rfl := Option.some.inj hp'
 obtain ⟨ak, uk, hqk, habk, huk, hcellk⟩ := hok.k.get (show 0 < p.1.kids.length by omega)
 obtain ⟨hk0, hke⟩ := hy.ok.kid hx (k := 0) (by omega)
 have hu : uk = (kidN p.1 0 : Int) := Option.some.inj (huk.symm.trans hke)
 subst hu
 have habk : ak.block < s0.heap.size := habk
 have hcellk : s0.cell? (ak.add (0 * 1)) = some (.int .i64 (kidN p.1 0 : Int)) := hcellk
 obtain ⟨k1, hk1'⟩ : ∃ k1, kidN p.1 0 = k1 := ⟨_, rfl⟩
 rw [hk1'] at hcellk hk0
 obtain ⟨bk1, hbk1⟩ : ∃ b, y.N[k1]? = some b := ⟨y.N[k1], List.getElem?_eq_getElem (by omega)⟩
 obtain ⟨bi, hbi⟩ := own_exG hy hil
 have hrow := rowG hbk1
 have hrowi := rowG hbi
 have hkl := hok.kl
 have hkc := hok.kc
 have hLim : ∀ k, s0.heap.size ≤ k → AllLe S k := fun k hk => AllLe.of fun s hs => Nat.le_trans (hSS s hs) hk
 refine enter Tryd.func35 rfl Tryd.ntmps35 rfl hc ?_
 (simp only [argEnv, Nat.zero_add, Nat.reduceAdd])
 unfold flG GY.c exC
 have hargs : IntsO s0 (low s0) (p.1.kids.drop 1) (cutq p.2.k.1 p.2.k.2 1 1) := fun hl => by
  have h1 := (hok.k.slAt).cut (cap := p.2.k.2) (i := 1) (sz := 1) (by rw [ints_length]; omega)
  rw [show (ints p.1.kids).drop (1 * 1) = ints (p.1.kids.drop 1) by simp [ints]] at h1
  exact h1 (by rw [ints_length]; exact hl)
 obtain ⟨qa, hqa2⟩ : ∃ qa, cutq p.2.k.1 p.2.k.2 1 1 = qa := ⟨_, rfl⟩
 obtain ⟨ca, hca⟩ : ∃ ca, p.2.k.2 - 1 = ca := ⟨_, rfl⟩
 rw [hqa2] at hargs
 apply W.sr
 apply OL.box; rfl; rfl; exact CellsL.agg; (intro bk hbk; have hbk0 := hbk.mem s0 hs0)
 apply OL.nsr
 apply ofa; rfl; rfl; rfl
 apply old; rfl; rfl; exact .head _; rfl; rfl
 apply oop; rfl; apply Pev.slice_lo; rfl; exact yes; rfl; exact yes; rfl; rfl; intro hcond; omega
 apply oas; rfl; rfl
 apply OL.nx
 apply W.seq
 rw [hqa2, hca]
 revert hbk0
 revert bk
 intro b5 hb5 hb50
 apply W.regd0; decide +kernel; kernel_rfl; decide +kernel; exact fun w hw => hw.drew
 apply qmv; rfl; rfl
 apply qop; rfl; apply Pev.nil_ptr; rfl; exact yes
 apply qfa; rfl; rfl; rfl
 apply qld; rfl; rfl; exact .tail _ (.head _); rfl; rfl
 apply qfa; rfl; rfl; rfl
 apply qld; rfl; rfl; exact .head _; rfl; rfl
 apply qop; rfl; apply Pev.idxQ; rfl; exact yes; rfl; exact yes; assumption; rfl; rfl; intro hcond; (simp only [Bool.and_eq_true, Bool.or_eq_true, Bool.not_eq_true', decide_eq_true_eq, decide_eq_false_iff_not] at *; omega)
 apply qop; rfl; apply Pev.load_kept; rfl; exact yes; assumption; rfl; intro hcond; assumption; intro hcond; assumption; intro hcond; (focus ((try simp only [add_block]); (repeat (first | exact NotOwned.nil | exact hno _ (by omega) | exact hnr _ (by omega) | refine NotOwned.any (hXn _ (by omega)) ?_ | refine NotOwned.blk (by omega) ?_ | refine NotOwned.row (by omega) ?_ | refine NotOwned.rws (by omega) ?_ | refine NotOwned.pile (by omega) ?_ | refine NotOwned.pool (by omega) ?_ | refine NotOwned.bag (by omega) ?_ | refine NotOwned.mapI (by omega) ?_ | apply NotOwned.bif | refine NotOwned.nothing ?_)); done))
 apply qop; rfl; apply Pev.idxB; rfl; exact yes; rfl; exact yes; rfl; intro hcond; omega; rfl
 apply qop; rfl; apply Pev.load_row; rfl; exact yes; apply List.Mem.tail; exact .tail _ (.tail _ (.head _)); rfl; assumption
 apply qop; rfl; apply Pev.len_slice; rfl; exact yes; rfl
 apply qmv; rfl; rfl
 apply QL.nil
 with_reducible apply At.next
 apply W.block
 have hrr : ∀ (s' : GS) (c : Nat), RStep e s (eApp e.length (ixF e) e s.R i p.1 c) s' → s'.R.getD k1 [] = s.R.getD k1 [] := fun s' c h => by
  rw [h.R]
  exact inAll_getD fun q hq => by
   have := eApp_ne hy.ok hx c q hq
   omega
 refine W.loop (G := Nat × GS) (fun G => G.1 ≤ e.length + 1 ∧ RStep e s (eApp e.length (ixF e) e s.R i p.1 G.1) G.2) (fun G => e.length + 1 - G.1)
  (fun G => [(0, true, .pointer (some ⟨y.bs, 0, none⟩)), (1, true, .int .i64 (i : Int)), (6, true, .slice qa (p.1.kids.length - 1) ca), (23, true, slG y.N.length bk1), (24, true, .int .i64 ((y.N.length + 1 : Nat) : Int)), (25, true, .int .i64 (G.1 : Int))])
  (fun G => Cls (blk b5 43 [.int .i64 p.1.op, .int .i64 p.1.n, .slice p.2.b.1 p.1.binds.length p.2.b.2, .slice p.2.k.1 p.1.kids.length p.2.k.2, .slice p.2.a.1 p.1.alts.length p.2.a.2] :: flG e y G.2 H) S) (0, s) ⟨Nat.zero_le _, .nil hs⟩ (by exact Sub.au) (fun w' hw' => hw') ?_
 rintro ⟨g, s1⟩ ⟨hg, hst⟩
 simp only at hg hst ⊢
 have hs1 := hst.ok
 unfold flG GY.c
 apply W.sr
 apply obn; rfl; rfl; rfl; apply Bin.lss
 apply OL.nx
 apply W.seq
 (refine W.cnd (fun hlt => ?_) (fun hlt => ?_)) <;> (try (exfalso; first | omega | exact hlt trivial | contradiction))
 ·obtain ⟨v, hv⟩ : ∃ v, (s1.R.getD k1 [])[g]? = some v := by
   have h1 : (s1.R.getD k1 []).length = e.length + 1 := hs1.dim.at (by unfold rowsN; omega)
   exact ⟨(s1.R.getD k1 [])[g]'(by omega), List.getElem?_eq_getElem _⟩
  have hBv : hB s.R (kidN p.1 0) g = v := by
   rw [hk1']
   unfold hB
   rw [← hrr s1 g hst, List.getD_eq_getElem?_getD (l := s1.R.getD k1 []), hv]
   rfl
  have hes : eApp e.length (ixF e) e s.R i p.1 (g + 1) = eApp e.length (ixF e) e s.R i p.1 g ++ (if v then eCall e.length (ixF e) e i p.1 g else []) := by
   rw [eApp_succ, hBv]
  apply W.sk
  apply W.sb
  apply W.sr
  apply omv; rfl; rfl
  apply oop; rfl; apply Pev.idxB; rfl; exact yes; rfl; exact yes; rfl; intro hcond; omega; rfl
  (((first | (with_reducible apply OL.op) | (with_reducible apply QL.op)); (exact Guard.au); rfl; rfl); (apply Pev.load_w1; rfl; ((first | exact fun _ => rfl | exact fun h => h | (intro h; simp_all; done))); rfl; exact fun _ w' hw' => by rw [show 0 + (g : Int).toNat * 1 = 0 + g * 1 by omega]; exact bagG_cell (e := e) (R := s1.R) hw' (by exact mau) (GP_node hbk1) hv))
  apply oas; rfl; rfl
  apply oas; rfl; rfl
  apply OL.nx
  apply W.block
  apply W.sr
  apply omv; rfl; rfl
  apply oop; rfl; apply Pev.not; rfl; exact yes
  apply oas; rfl; rfl
  apply OL.nx
  cases v with
  | false =>
   refine W.cond rfl (fun _ => ?_) (fun h => by simp at h)
   apply W.skip
   with_reducible apply At.in_normal
   with_reducible apply At.in_normal
   with_reducible apply At.next
   apply W.reg
   apply obn; rfl; rfl; rfl; apply Bin.add_in; omega
   apply omv; rfl; rfl
   apply OL.nil
   refine At.again (g + 1, s1) ⟨by omega, by rw [hes]; simpa using hst⟩ (by simp only; omega) (by exact Sub.au) (fun w' hw' => hw')
  | true =>
   rw [if_pos rfl] at hes
   refine W.cond rfl (fun h => by simp at h) (fun _ => ?_)
   apply W.sr
   apply omv; rfl; rfl
   apply omv; rfl; rfl
   apply oop; rfl; apply Pev.nil_ptr; rfl; exact yes
   apply ofa; rfl; rfl; rfl
   apply old; rfl; rfl; exact .tail _ (.head _); rfl; rfl
   apply oop; rfl; apply Pev.len_slice; rfl; exact yes; rfl
   apply obn; rfl; rfl; rfl; apply Bin.eql
   apply omv; rfl; rfl
   apply oy; rfl; rfl; rfl; apply Pev.move; rfl; exact yes
   apply oy; rfl; rfl; rfl; apply Pev.len_slice; rfl; exact fun h => h; rfl
   apply oy; rfl; rfl; rfl; apply Pev.bin; rfl; exact fun h => h; rfl; exact yes; intro hcond; apply Bin.eql
   apply oop; rfl; apply Pev.pick_and; rfl; exact yes; rfl; exact fun h => h
   apply oas; rfl; rfl
   apply OL.nx
   refine W.cond rfl (fun h => ?_) (fun h => ?_)
   ·have h1 : g = e.length ∧ p.1.kids.length = 2 := by simp only [Bool.and_eq_true, decide_eq_true_eq] at h; omega
    have hec : eCall e.length (ixF e) e i p.1 g = [(e.length, kidN p.1 1)] ++ [(i, e.length)] := by
     unfold eCall
     rw [if_pos h1]
     rfl
    obtain ⟨a0, u0, hq0, hab0, hu0, hcell0⟩ := hargs.get (show 0 < (p.1.kids.drop 1).length by rw [List.length_drop]; omega)
    obtain ⟨hk2, hke2⟩ := hy.ok.kid hx (k := 1) (by omega)
    have hu : u0 = (kidN p.1 1 : Int) := by
     rw [List.getElem?_drop] at hu0
     exact Option.some.inj (hu0.symm.trans hke2)
    subst hu
    have hab0 : a0.block < s0.heap.size := hab0
    have hcell0 : s0.cell? (a0.add (0 * 1)) = some (.int .i64 (kidN p.1 1 : Int)) := hcell0
    obtain ⟨k2, hk2'⟩ : ∃ k2, kidN p.1 1 = k2 := ⟨_, rfl⟩
    rw [hk2'] at hcell0 hk2 hec
    obtain ⟨bk2, hbk2⟩ : ∃ b, y.N[k2]? = some b := ⟨y.N[k2], List.getElem?_eq_getElem (by omega)⟩
    have hrow2 := rowG hbk2
    apply W.seq
    refine W.regn 14 (by (repeat (first | exact SplitN.z | apply SplitN.s))) (by kernel_rfl) (by decide +kernel) (fun w hw => hw.drew) ?_
    apply qmv; rfl; rfl
    apply qmv; rfl; rfl
    apply qop; rfl; apply Pev.nil_ptr; rfl; exact yes
    apply qfa; rfl; rfl; rfl
    apply qld; rfl; rfl; exact .tail _ (.head _); rfl; rfl
    apply qmv; rfl; rfl
    apply qop; rfl; apply Pev.nil_ptr; rfl; exact yes
    apply qfa; rfl; rfl; rfl
    apply qld; rfl; rfl; exact .tail _ (.head _); rfl; rfl
    apply qmv; rfl; rfl
    apply qop; rfl; apply Pev.idxQ; rfl; exact yes; rfl; exact yes; assumption; rfl; rfl; intro hcond; (simp only [Bool.and_eq_true, Bool.or_eq_true, Bool.not_eq_true', decide_eq_true_eq, decide_eq_false_iff_not] at *; omega)
    apply qop; rfl; apply Pev.load_kept; rfl; exact yes; assumption; rfl; intro hcond; assumption; intro hcond; assumption; intro hcond; (focus ((try simp only [add_block]); (repeat (first | exact NotOwned.nil | exact hno _ (by omega) | exact hnr _ (by omega) | refine NotOwned.any (hXn _ (by omega)) ?_ | refine NotOwned.blk (by omega) ?_ | refine NotOwned.row (by omega) ?_ | refine NotOwned.rws (by omega) ?_ | refine NotOwned.pile (by omega) ?_ | refine NotOwned.pool (by omega) ?_ | refine NotOwned.bag (by omega) ?_ | refine NotOwned.mapI (by omega) ?_ | apply NotOwned.bif | refine NotOwned.nothing ?_)); done))
    apply qop; rfl; apply Pev.idxB; rfl; exact yes; rfl; exact yes; rfl; intro hcond; omega; rfl
    apply qop; rfl; apply Pev.load_row; rfl; exact yes; apply List.Mem.tail; exact .tail _ (.tail _ (.head _)); rfl; assumption
    with_reducible apply QL.tail
    refine OL.callE (α := Unit) (fun _ => .tuple #[]) (fun _ => GSOk e (s1.into e.length k2)) (fun _ => Cls (blk b5 43 [.int .i64 p.1.op, .int .i64 p.1.n, .slice p.2.b.1 p.1.binds.length p.2.b.2, .slice p.2.k.1 p.1.kids.length p.2.k.2, .slice p.2.a.1 p.1.alts.length p.2.a.2] :: flG e y (s1.into e.length k2) H) S) rfl rfl (by exact Args.au) (fun w2 hw2 => (toG_calls e y s1 hy (by assumption) e.length y.bh k2 bk2 (by rw [← hn]; exact GP_heap) (GP_node hbk2) _ S w2 (flGX.1 hw2)).mono (fun e1 w3 ⟨h1, h2, h3⟩ => ⟨(), h1, h2, flGX.2 h3⟩)) ?_
    rintro ⟨⟩ hs2
    unfold flG GY.c
    apply OL.nx
    refine W.regn 12 (by (repeat (first | exact SplitN.z | apply SplitN.s))) (by kernel_rfl) (by decide +kernel) (fun w hw => hw.drew) ?_
    apply qmv; rfl; rfl
    apply qmv; rfl; rfl
    apply qop; rfl; apply Pev.nil_ptr; rfl; exact yes
    apply qfa; rfl; rfl; rfl
    apply qld; rfl; rfl; exact .tail _ (.head _); rfl; rfl
    apply qmv; rfl; rfl
    apply qop; rfl; apply Pev.idxB; rfl; exact yes; rfl; exact yes; rfl; intro hcond; omega; rfl
    apply qop; rfl; apply Pev.load_row; rfl; exact yes; apply List.Mem.tail; exact .tail _ (.tail _ (.head _)); rfl; assumption
    apply qmv; rfl; rfl
    apply qop; rfl; apply Pev.nil_ptr; rfl; exact yes
    apply qfa; rfl; rfl; rfl
    apply qld; rfl; rfl; exact .tail _ (.head _); rfl; rfl
    with_reducible apply QL.tail
    refine OL.callE (α := Unit) (fun _ => .tuple #[]) (fun _ => GSOk e ((s1.into e.length k2).into i e.length)) (fun _ => Cls (blk b5 43 [.int .i64 p.1.op, .int .i64 p.1.n, .slice p.2.b.1 p.1.binds.length p.2.b.2, .slice p.2.k.1 p.1.kids.length p.2.k.2, .slice p.2.a.1 p.1.alts.length p.2.a.2] :: flG e y ((s1.into e.length k2).into i e.length) H) S) rfl rfl (by exact Args.au) (fun w2 hw2 => (toG_calls e y (s1.into e.length k2) hy (by assumption) i bi e.length y.bh (GP_node hbi) (by rw [← hn]; exact GP_heap) _ S w2 (flGX.1 hw2)).mono (fun e1 w3 ⟨h1, h2, h3⟩ => ⟨(), h1, h2, flGX.2 h3⟩)) ?_
    rintro ⟨⟩ hs3
    apply OL.nil
    with_reducible apply At.in_normal
    with_reducible apply At.in_normal
    with_reducible apply At.next
    apply W.reg
    apply obn; rfl; rfl; rfl; apply Bin.add_in; omega
    apply omv; rfl; rfl
    apply OL.nil
    refine At.again (g + 1, (s1.into e.length k2).into i e.length) ⟨by omega, ?_⟩ (by simp only; omega) (by exact Sub.au) (fun w' hw' => hw')
    rw [hes, hec]
    exact hst.app hs (RStep.app hs1 (.one hs2) (.one hs3))
   ·have hnc : ¬ (g = e.length ∧ p.1.kids.length = 2) := by intro hh; simp only [Bool.and_eq_false_iff, decide_eq_false_iff_not] at h; omega
    rcases hs.lam _ g hBv with hgn | ⟨z, hz, hoz⟩
    ·have hec : eCall e.length (ixF e) e i p.1 g = [] := by
      unfold eCall
      rw [if_neg hnc, hgn, List.getElem?_eq_none (Nat.le_refl _)]
     have hnl : NotLt (g : Int) (y.N.length : Int) := by unfold NotLt; omega
     apply W.sr
     apply omv; rfl; rfl
     apply omv; rfl; rfl
     apply oop; rfl; apply Pev.nil_ptr; rfl; exact yes
     apply ofa; rfl; rfl; rfl
     apply old; rfl; rfl; exact .tail _ (.head _); rfl; rfl
     apply oop; rfl; apply Pev.len_slice; rfl; exact yes; rfl
     apply obn; rfl; rfl; rfl; apply Bin.lss_nof; assumption
     apply omv; rfl; rfl
     apply oy; rfl; rfl; rfl; with_reducible exact Pev.no
     apply oy; rfl; rfl; rfl; with_reducible exact Pev.no
     apply oy; rfl; rfl; rfl; with_reducible exact Pev.no
     apply oy; rfl; rfl; rfl; with_reducible exact Pev.no
     apply oy; rfl; rfl; rfl; with_reducible exact Pev.no
     apply oy; rfl; rfl; rfl; with_reducible exact Pev.no
     apply oy; rfl; rfl; rfl; with_reducible exact Pev.no
     apply oy; rfl; rfl; rfl; with_reducible exact Pev.no
     apply oy; rfl; rfl; rfl; with_reducible exact Pev.no
     apply oy; rfl; rfl; rfl; with_reducible exact Pev.no
     apply oy; rfl; rfl; rfl; with_reducible exact Pev.no
     apply oy; rfl; rfl; rfl; with_reducible exact Pev.no
     apply oop; rfl; apply Pev.pick_and; rfl; exact yes; rfl; exact fun h => h
     apply oas; rfl; rfl
     apply OL.nx
     refine W.cond rfl (fun h5 => by simp at h5) (fun _ => ?_)
     apply W.skip
     with_reducible apply At.in_normal
     with_reducible apply At.in_normal
     with_reducible apply At.next
     apply W.reg
     apply obn; rfl; rfl; rfl; apply Bin.add_in; omega
     apply omv; rfl; rfl
     apply OL.nil
     refine At.again (g + 1, s1) ⟨by omega, by rw [hes, hec, List.append_nil]; exact hst⟩ (by simp only; omega) (by exact Sub.au) (fun w' hw' => hw')
    have hgl := (List.getElem?_eq_some_iff.1 hz).1
    obtain ⟨ag, pg, hqg, habg, hpg, hcellg, hokg⟩ := he.get (show g < es.length by omega)
    have hpz : pg.1 = z := by
     have h5 : (es.map Prod.fst)[g]? = some pg.1 := by rw [List.getElem?_map, hpg]; rfl
     rw [hee, hz] at h5
     exact (Option.some.inj h5).symm
    subst hpz
    have habg : ag.block < s0.heap.size := habg
    have hcellg : CellsAt s0 (ag.add (g * 5)) [.int .i64 pg.1.op, .int .i64 pg.1.n, .slice pg.2.b.1 pg.1.binds.length pg.2.b.2, .slice pg.2.k.1 pg.1.kids.length pg.2.k.2, .slice pg.2.a.1 pg.1.alts.length pg.2.a.2] := hcellg
    have hblg := hokg.bl
    clear hcell hqa
    apply W.sr
    apply omv; rfl; rfl
    apply omv; rfl; rfl
    apply oop; rfl; apply Pev.nil_ptr; rfl; exact yes
    apply ofa; rfl; rfl; rfl
    apply old; rfl; rfl; exact .tail _ (.head _); rfl; rfl
    apply oop; rfl; apply Pev.len_slice; rfl; exact yes; rfl
    apply obn; rfl; rfl; rfl; apply Bin.lss
    apply omv; rfl; rfl
    apply oy; rfl; rfl; rfl; apply Pev.move; rfl; exact yes
    apply oy; rfl; rfl; rfl; apply Pev.nil_ptr; rfl; exact fun h => h
    apply oy; rfl; rfl; rfl; apply Pev.fld; rfl; exact fun h => h; rfl
    apply oy; rfl; rfl; rfl; apply Pev.load_blk; rfl; exact fun h => h; exact .tail _ (.head _); rfl; rfl
    apply oy; rfl; rfl; rfl; apply Pev.move; rfl; exact yes
    apply oy; rfl; rfl; rfl; apply Pev.idxQ; rfl; exact fun h => h; rfl; exact fun h => h; assumption; rfl; rfl; intro hcond; omega
    apply oy; rfl; rfl; rfl; apply Pev.fldA; rfl; exact fun h => h; rfl
    apply oy; rfl; rfl; rfl; apply Pev.load_kept; rfl; exact fun h => h; assumption; rfl; intro hcond; apply CellsAt.at_ (by assumption) rfl; intro hcond; (simp only [add_block]; assumption); intro hcond; (focus ((try simp only [add_block]); (repeat (first | exact NotOwned.nil | exact hno _ (by omega) | exact hnr _ (by omega) | refine NotOwned.any (hXn _ (by omega)) ?_ | refine NotOwned.blk (by omega) ?_ | refine NotOwned.row (by omega) ?_ | refine NotOwned.rws (by omega) ?_ | refine NotOwned.pile (by omega) ?_ | refine NotOwned.pool (by omega) ?_ | refine NotOwned.bag (by omega) ?_ | refine NotOwned.mapI (by omega) ?_ | apply NotOwned.bif | refine NotOwned.nothing ?_)); done))
    apply oy; rfl; rfl; rfl; apply Pev.len_slice; rfl; exact fun h => h; rfl
    apply oy; rfl; rfl; rfl; apply Pev.move; rfl; exact yes
    apply oy; rfl; rfl; rfl; apply Pev.len_slice; rfl; exact fun h => h; rfl
    apply oy; rfl; rfl; rfl; apply Pev.bin; rfl; exact fun h => h; rfl; exact fun h => h; intro hcond; apply Bin.eql
    apply oop; rfl; apply Pev.pick_and; rfl; exact yes; rfl; exact fun h => h
    apply oas; rfl; rfl
    apply OL.nx
    refine W.cond rfl (fun h5 => ?_) (fun h5 => ?_)
    ·have h6 : pg.1.binds.length + 1 = p.1.kids.length := by simp only [Bool.and_eq_true, decide_eq_true_eq] at h5; omega
     have hec : eCall e.length (ixF e) e i p.1 g = ((List.range pg.1.binds.length).map fun k => (ixF e (pg.1.binds.getD k 0), kidN p.1 (k + 1))) ++ [(i, kidN pg.1 0)] := by
      unfold eCall
      rw [if_neg hnc, hz]
      simp only
      rw [if_pos h6]
     apply W.seq
     apply W.sr
     apply omv; rfl; rfl
     apply oop; rfl; apply Pev.len_slice; rfl; exact yes; rfl
     apply omv; rfl; rfl
     apply OL.nx
     apply W.block
     refine W.loop (G := Nat × GS) (fun G => G.1 ≤ pg.1.binds.length ∧ RStep e s1 ((List.range G.1).map fun k => (ixF e (pg.1.binds.getD k 0), kidN p.1 (k + 1))) G.2) (fun G => pg.1.binds.length - G.1)
      (fun G => [(0, true, .pointer (some ⟨y.bs, 0, none⟩)), (1, true, .int .i64 (i : Int)), (6, true, .slice qa (p.1.kids.length - 1) ca), (7, true, .int .i64 (g : Int)), (23, true, slG y.N.length bk1), (24, true, .int .i64 ((y.N.length + 1 : Nat) : Int)), (25, true, .int .i64 (g : Int)), (96, true, .slice qa (p.1.kids.length - 1) ca), (97, true, .int .i64 ((p.1.kids.length - 1 : Nat) : Int)), (98, true, .int .i64 (G.1 : Int))])
      (fun G => Cls (blk b5 43 [.int .i64 p.1.op, .int .i64 p.1.n, .slice p.2.b.1 p.1.binds.length p.2.b.2, .slice p.2.k.1 p.1.kids.length p.2.k.2, .slice p.2.a.1 p.1.alts.length p.2.a.2] :: flG e y G.2 H) S) (0, s1) ⟨Nat.zero_le _, .nil hs1⟩ (by exact Sub.au) (fun w' hw' => hw') ?_
     rintro ⟨k, s2⟩ ⟨hk, hst2⟩
     simp only at hk hst2 ⊢
     have hs2 := hst2.ok
     unfold flG GY.c
     apply W.sr
     apply obn; rfl; rfl; rfl; apply Bin.lss
     apply OL.nx
     apply W.seq
     (refine W.cnd (fun hlt3 => ?_) (fun hlt3 => ?_)) <;> (try (exfalso; first | omega | exact hlt3 trivial | contradiction))
     ·obtain ⟨a0, u0, hq0, hab0, hu0, hcell0⟩ := hargs.get (show k < (p.1.kids.drop 1).length by rw [List.length_drop]; omega)
      obtain ⟨hkl2, hke2⟩ := hy.ok.kid hx (k := k + 1) (by omega)
      have hu : u0 = (kidN p.1 (k + 1) : Int) := by
       rw [List.getElem?_drop, Nat.add_comm] at hu0
       exact Option.some.inj (hu0.symm.trans hke2)
      subst hu
      have hab0 : a0.block < s0.heap.size := hab0
      have hcell0 : s0.cell? (a0.add (k * 1)) = some (.int .i64 (kidN p.1 (k + 1) : Int)) := hcell0
      obtain ⟨av, v, hqv, habv, hv, hcellv⟩ := hokg.b.get (show k < pg.1.binds.length by omega)
      have habv : av.block < s0.heap.size := habv
      have hcellv : s0.cell? (av.add (k * 1)) = some (.int .i64 v) := hcellv
      have hgv : pg.1.binds.getD k 0 = v := by rw [List.getD_eq_getElem?_getD, hv]; rfl
      have hid : v ∈ e.flatMap bindersX := FOk.bind hz (.inl hoz) (List.mem_of_getElem? hv)
      obtain ⟨bd, hbd⟩ := GD_ex hy hid
      obtain ⟨k2, hk2'⟩ : ∃ k2, kidN p.1 (k + 1) = k2 := ⟨_, rfl⟩
      rw [hk2'] at hcell0 hkl2
      obtain ⟨bk2, hbk2⟩ : ∃ b, y.N[k2]? = some b := ⟨y.N[k2], List.getElem?_eq_getElem (by omega)⟩
      have hrow2 := rowG hbk2
      apply W.sk
      apply W.sb
      apply W.sr
      apply omv; rfl; rfl
      apply oop; rfl; apply Pev.idxQ; rfl; exact yes; rfl; exact yes; assumption; rfl; rfl; intro hcond; omega
      apply oop; rfl; apply Pev.load_kept; rfl; exact yes; assumption; rfl; intro hcond; assumption; intro hcond; (rw [add_block]; assumption); intro hcond; (focus ((try simp only [add_block]); (repeat (first | exact NotOwned.nil | exact hno _ (by omega) | exact hnr _ (by omega) | refine NotOwned.any (hXn _ (by omega)) ?_ | refine NotOwned.blk (by omega) ?_ | refine NotOwned.row (by omega) ?_ | refine NotOwned.rws (by omega) ?_ | refine NotOwned.pile (by omega) ?_ | refine NotOwned.pool (by omega) ?_ | refine NotOwned.bag (by omega) ?_ | refine NotOwned.mapI (by omega) ?_ | apply NotOwned.bif | refine NotOwned.nothing ?_)); done))
      apply oas; rfl; rfl
      apply oas; rfl; rfl
      apply OL.nx
      refine W.regn 21 (by (repeat (first | exact SplitN.z | apply SplitN.s))) (by kernel_rfl) (by decide +kernel) (fun w hw => hw.drew) ?_
      apply qmv; rfl; rfl
      apply qmv; rfl; rfl
      apply qmv; rfl; rfl
      apply qop; rfl; apply Pev.nil_ptr; rfl; exact yes
      apply qfa; rfl; rfl; rfl
      apply qld; rfl; rfl; exact .tail _ (.head _); rfl; rfl
      apply qmv; rfl; rfl
      apply qop; rfl; apply Pev.idxQ; rfl; exact yes; rfl; exact yes; assumption; rfl; rfl; intro hcond; omega
      apply qop; rfl; apply Pev.fldA; rfl; exact yes; rfl
      apply qop; rfl; apply Pev.load_kept; rfl; exact yes; assumption; rfl; intro hcond; apply CellsAt.at_ (by assumption) rfl; intro hcond; (simp only [add_block]; assumption); intro hcond; (focus ((try simp only [add_block]); (repeat (first | exact NotOwned.nil | exact hno _ (by omega) | exact hnr _ (by omega) | refine NotOwned.any (hXn _ (by omega)) ?_ | refine NotOwned.blk (by omega) ?_ | refine NotOwned.row (by omega) ?_ | refine NotOwned.rws (by omega) ?_ | refine NotOwned.pile (by omega) ?_ | refine NotOwned.pool (by omega) ?_ | refine NotOwned.bag (by omega) ?_ | refine NotOwned.mapI (by omega) ?_ | apply NotOwned.bif | refine NotOwned.nothing ?_)); done))
      apply qmv; rfl; rfl
      apply qop; rfl; apply Pev.idxQ; rfl; exact yes; rfl; exact yes; assumption; rfl; rfl; intro hcond; omega
      apply qop; rfl; apply Pev.load_kept; rfl; exact yes; assumption; rfl; intro hcond; assumption; intro hcond; (rw [add_block]; assumption); intro hcond; (focus ((try simp only [add_block]); (repeat (first | exact NotOwned.nil | exact hno _ (by omega) | exact hnr _ (by omega) | refine NotOwned.any (hXn _ (by omega)) ?_ | refine NotOwned.blk (by omega) ?_ | refine NotOwned.row (by omega) ?_ | refine NotOwned.rws (by omega) ?_ | refine NotOwned.pile (by omega) ?_ | refine NotOwned.pool (by omega) ?_ | refine NotOwned.bag (by omega) ?_ | refine NotOwned.mapI (by omega) ?_ | apply NotOwned.bif | refine NotOwned.nothing ?_)); done))
      (((first | (with_reducible apply OL.op) | (with_reducible apply QL.op)); (exact Guard.au); rfl; rfl); (exact Pev.call (v := slG y.N.length bd) rfl (by exact Args.au) (fun _ w2 hw2 => (identG_calls e y s2 hy v hid bd hbd _ S w2 (flGX.1 hw2)).mono (fun e1 w3 ⟨h1, h2⟩ => ⟨h1, flGX.2 h2⟩))))
      apply qmv; rfl; rfl
      apply qop; rfl; apply Pev.nil_ptr; rfl; exact yes
      apply qfa; rfl; rfl; rfl
      apply qld; rfl; rfl; exact .tail _ (.head _); rfl; rfl
      apply qmv; rfl; rfl
      apply qop; rfl; apply Pev.idxB; rfl; exact yes; rfl; exact yes; rfl; intro hcond; omega; rfl
      apply qop; rfl; apply Pev.load_row; rfl; exact yes; apply List.Mem.tail; exact .tail _ (.tail _ (.head _)); rfl; assumption
      with_reducible apply QL.tail
      refine OL.callE (α := Unit) (fun _ => .tuple #[]) (fun _ => GSOk e (s2.into (ixF e v) k2)) (fun _ => Cls (blk b5 43 [.int .i64 p.1.op, .int .i64 p.1.n, .slice p.2.b.1 p.1.binds.length p.2.b.2, .slice p.2.k.1 p.1.kids.length p.2.k.2, .slice p.2.a.1 p.1.alts.length p.2.a.2] :: flG e y (s2.into (ixF e v) k2) H) S) rfl rfl (by exact Args.au) (fun w2 hw2 => (toG_calls e y s2 hy (by assumption) (ixF e v) bd k2 bk2 (GP_id hy hbd) (GP_node hbk2) _ S w2 (flGX.1 hw2)).mono (fun e1 w3 ⟨h1, h2, h3⟩ => ⟨(), h1, h2, flGX.2 h3⟩)) ?_
      rintro ⟨⟩ hs3
      apply OL.nil
      with_reducible apply At.in_normal
      with_reducible apply At.next
      apply W.reg
      apply obn; rfl; rfl; rfl; apply Bin.add_in; omega
      apply omv; rfl; rfl
      apply OL.nil
      refine At.again (k + 1, s2.into (ixF e v) k2) ⟨by omega, ?_⟩ (by simp only; omega) (by exact Sub.au) (fun w' hw' => hw')
      rw [List.range_succ, List.map_append, List.map_singleton, hgv, hk2']
      exact hst2.app hs1 (.one hs3)
     ·obtain rfl : k = pg.1.binds.length := by omega
      obtain ⟨hk2, hke2⟩ := hy.ok.kid hz (k := 0) (by have := (hy.ok.sh g pg.1 hz).lam hoz; omega)
      obtain ⟨a2, u2, hq2, hab2, hu2, hcell2⟩ := hokg.k.get (show 0 < pg.1.kids.length by have := (hy.ok.sh g pg.1 hz).lam hoz; omega)
      have hu : u2 = (kidN pg.1 0 : Int) := Option.some.inj (hu2.symm.trans hke2)
      subst hu
      have hab2 : a2.block < s0.heap.size := hab2
      have hcell2 : s0.cell? (a2.add (0 * 1)) = some (.int .i64 (kidN pg.1 0 : Int)) := hcell2
      have hlk := (hy.ok.sh g pg.1 hz).lam hoz
      obtain ⟨k2, hk2'⟩ : ∃ k2, kidN pg.1 0 = k2 := ⟨_, rfl⟩
      rw [hk2'] at hcell2 hk2 hec
      obtain ⟨bk2, hbk2⟩ : ∃ b, y.N[k2]? = some b := ⟨y.N[k2], List.getElem?_eq_getElem (by omega)⟩
      have hrow2 := rowG hbk2
      clear hqk hcellk
      refine W.xt ?_
      with_reducible apply At.next
      refine W.regn 24 (by (repeat (first | exact SplitN.z | apply SplitN.s))) (by kernel_rfl) (by decide +kernel) (fun w hw => hw.drew) ?_
      apply qmv; rfl; rfl
      apply qmv; rfl; rfl
      apply qop; rfl; apply Pev.nil_ptr; rfl; exact yes
      apply qfa; rfl; rfl; rfl
      apply qld; rfl; rfl; exact .tail _ (.head _); rfl; rfl
      apply qmv; rfl; rfl
      apply qop; rfl; apply Pev.idxB; rfl; exact yes; rfl; exact yes; rfl; intro hcond; omega; rfl
      apply qop; rfl; apply Pev.load_row; rfl; exact yes; apply List.Mem.tail; exact .tail _ (.tail _ (.head _)); rfl; assumption
      apply qmv; rfl; rfl
      apply qop; rfl; apply Pev.nil_ptr; rfl; exact yes
      apply qfa; rfl; rfl; rfl
      apply qld; rfl; rfl; exact .tail _ (.head _); rfl; rfl
      apply qmv; rfl; rfl
      apply qop; rfl; apply Pev.nil_ptr; rfl; exact yes
      apply qfa; rfl; rfl; rfl
      apply qld; rfl; rfl; exact .tail _ (.head _); rfl; rfl
      apply qmv; rfl; rfl
      apply qop; rfl; apply Pev.idxQ; rfl; exact yes; rfl; exact yes; assumption; rfl; rfl; intro hcond; omega
      apply qop; rfl; apply Pev.fldA; rfl; exact yes; rfl
      apply qop; rfl; apply Pev.load_kept; rfl; exact yes; assumption; rfl; intro hcond; apply CellsAt.at_ (by assumption) rfl; intro hcond; (simp only [add_block]; assumption); intro hcond; (focus ((try simp only [add_block]); (repeat (first | exact NotOwned.nil | exact hno _ (by omega) | exact hnr _ (by omega) | refine NotOwned.any (hXn _ (by omega)) ?_ | refine NotOwned.blk (by omega) ?_ | refine NotOwned.row (by omega) ?_ | refine NotOwned.rws (by omega) ?_ | refine NotOwned.pile (by omega) ?_ | refine NotOwned.pool (by omega) ?_ | refine NotOwned.bag (by omega) ?_ | refine NotOwned.mapI (by omega) ?_ | apply NotOwned.bif | refine NotOwned.nothing ?_)); done))
      apply qop; rfl; apply Pev.idxQ; rfl; exact yes; rfl; exact yes; assumption; rfl; rfl; intro hcond; (simp only [Bool.and_eq_true, Bool.or_eq_true, Bool.not_eq_true', decide_eq_true_eq, decide_eq_false_iff_not] at *; omega)
      apply qop; rfl; apply Pev.load_kept; rfl; exact yes; assumption; rfl; intro hcond; assumption; intro hcond; assumption; intro hcond; (focus ((try simp only [add_block]); (repeat (first | exact NotOwned.nil | exact hno _ (by omega) | exact hnr _ (by omega) | refine NotOwned.any (hXn _ (by omega)) ?_ | refine NotOwned.blk (by omega) ?_ | refine NotOwned.row (by omega) ?_ | refine NotOwned.rws (by omega) ?_ | refine NotOwned.pile (by omega) ?_ | refine NotOwned.pool (by omega) ?_ | refine NotOwned.bag (by omega) ?_ | refine NotOwned.mapI (by omega) ?_ | apply NotOwned.bif | refine NotOwned.nothing ?_)); done))
      apply qop; rfl; apply Pev.idxB; rfl; exact yes; rfl; exact yes; rfl; intro hcond; omega; rfl
      apply qop; rfl; apply Pev.load_row; rfl; exact yes; apply List.Mem.tail; exact .tail _ (.tail _ (.head _)); rfl; assumption
      with_reducible apply QL.tail
      refine OL.callE (α := Unit) (fun _ => .tuple #[]) (fun _ => GSOk e (s2.into i k2)) (fun _ => Cls (blk b5 43 [.int .i64 p.1.op, .int .i64 p.1.n, .slice p.2.b.1 p.1.binds.length p.2.b.2, .slice p.2.k.1 p.1.kids.length p.2.k.2, .slice p.2.a.1 p.1.alts.length p.2.a.2] :: flG e y (s2.into i k2) H) S) rfl rfl (by exact Args.au) (fun w2 hw2 => (toG_calls e y s2 hy (by assumption) i bi k2 bk2 (GP_node hbi) (GP_node hbk2) _ S w2 (flGX.1 hw2)).mono (fun e1 w3 ⟨h1, h2, h3⟩ => ⟨(), h1, h2, flGX.2 h3⟩)) ?_
      rintro ⟨⟩ hs3
      apply OL.nil
      with_reducible apply At.in_normal
      with_reducible apply At.in_normal
      with_reducible apply At.next
      apply W.reg
      apply obn; rfl; rfl; rfl; apply Bin.add_in; omega
      apply omv; rfl; rfl
      apply OL.nil
      refine At.again (g + 1, s2.into i k2) ⟨by omega, ?_⟩ (by simp only; omega) (by exact Sub.au) (fun w' hw' => hw')
      rw [hes, hec]
      exact hst.app hs (RStep.app hs1 hst2 (.one hs3))
    ·have hec : eCall e.length (ixF e) e i p.1 g = [] := by
      unfold eCall
      rw [if_neg hnc, hz]
      simp only
      rw [if_neg (by simp only [Bool.and_eq_false_iff, decide_eq_false_iff_not] at h5; omega)]
     apply W.skip
     with_reducible apply At.in_normal
     with_reducible apply At.in_normal
     with_reducible apply At.next
     apply W.reg
     apply obn; rfl; rfl; rfl; apply Bin.add_in; omega
     apply omv; rfl; rfl
     apply OL.nil
     refine At.again (g + 1, s1) ⟨by omega, by rw [hes, hec, List.append_nil]; exact hst⟩ (by simp only; omega) (by exact Sub.au) (fun w' hw' => hw')
 ·obtain rfl : g = e.length + 1 := by omega
  refine W.xt ?_
  refine At.end_ (At.fin0 rfl (fun w' hw' => ⟨s1, rfl, hst, hw'.thin (.any (fun k hk => by rw [show k = b5 from hk]; exact hb5) .same)⟩))
end Go.Proofs.YtkpjndhgicbjjaaDoor.co

/- The walk of the reference's Flows.alternatives. Conditions: none. -/
namespace Go.Co
open Go.Eng
theorem only_row (e : List Ex) : (List.replicate (e.length + 1) (.bool false : Value)).set e.length (.bool true) = bools (rowB0 e (e.length + 1)) := by
 unfold bools
 refine List.ext_getElem? fun f => ?_
 rw [List.getElem?_map]
 unfold rowB0
 rw [List.getElem?_map]
 have h2 : e[e.length + 1]? = none := List.getElem?_eq_none (by omega)
 by_cases h : e.length = f
 ·subst h
  rw [List.getElem?_set_self (by simp), List.getElem?_range (by omega)]
  simp [initB, h2]
 ·rw [List.getElem?_set_ne h]
  by_cases hf : f < e.length + 1
  ·rw [List.getElem?_replicate, if_pos hf, List.getElem?_range hf]
   have : ¬ f = e.length := fun h3 => h h3.symm
   simp [initB, h2, this]
  ·rw [List.getElem?_eq_none (by rw [List.length_replicate]; omega), List.getElem?_eq_none (l := List.range (e.length + 1)) (by rw [List.length_range]; omega)]
   rfl
end Go.Co
namespace Go.Proofs.YtkpjndhgicbjjaaDoor.co
open Go.RowKit Go.Eng Go.Co
set_option maxRecDepth 100000
theorem flGPX {e : List Ex} {y : GY} {P : List (Nat × Nat)} {s : GS} {H : List Eng.Item} {S : List World} {w : World} {j : Eng.Item} : Cls (j :: flGP e y P s H) S w ↔ Cls (flGP e y P s (j :: H)) S w := by
 unfold flGP
 exact ⟨fun h => h.perm ((List.perm_append_comm (l₁ := [_]) (l₂ := [_, _, _, _, _])).append_right _), fun h => h.perm ((List.perm_append_comm (l₁ := [_, _, _, _, _]) (l₂ := [_])).append_right _)⟩
theorem flGPX2 {e : List Ex} {y : GY} {P : List (Nat × Nat)} {s : GS} {H : List Eng.Item} {S : List World} {w : World} {i j : Eng.Item} : Cls (i :: j :: flGP e y P s H) S w ↔ Cls (flGP e y P s (i :: j :: H)) S w := by
 unfold flGP
 exact ⟨fun h => h.perm ((List.perm_append_comm (l₁ := [_, _]) (l₂ := [_, _, _, _, _])).append_right _), fun h => h.perm ((List.perm_append_comm (l₁ := [_, _, _, _, _]) (l₂ := [_, _])).append_right _)⟩
theorem altsG_calls (s0 : World) (e : List Ex) (y : GY) (hy : GYOk e y) (hyBe : y.B = s0.heap.size) (hbs : s0.heap.size ≤ y.bs) (i : Nat) (x : Ex) (xy : ExY) (hx : e[i]? = some x) (hok : ExOk s0 (low s0) x xy) (ho : x.op = 7 ∨ x.op = 13)
  (s : GS) (hs : GSOk e s) (H : List Eng.Item) (hno : ∀ k, k < s0.heap.size → NotOwned H k) (S : List World) (hs0 : s0 ∈ S) (hSS : ∀ s ∈ S, s.heap.size ≤ s0.heap.size) (w : World) (hc : Cls (flG e y s H) S w) :
  Calls Tryd.prog 36 [.pointer (some ⟨y.bs, 0, none⟩), .int .i64 (i : Int), .agg (exC x xy).toArray].toArray w fun r w' => ∃ s', r = .returned (.tuple #[]) ∧ RStep e s (eStat e.length (ixF e) i x) s' ∧ Cls (flG e y s' H) S w' := by
 have hsh := hy.ok.sh i x hx
 have hn := hy.len
 have hlen := hy.ok.len
 have hyB : s0.heap.size ≤ y.B := by omega
 have hil := (List.getElem?_eq_some_iff.1 hx).1
 have hkl := hok.kl
 have hal := hok.al
 have hka := hsh.alts ho
 have hLim : ∀ k, s0.heap.size ≤ k → AllLe S k := fun k hk => AllLe.of fun s hs => Nat.le_trans (hSS s hs) hk
 have hes : eStat e.length (ixF e) i x = ((List.range x.alts.length).flatMap fun k => eAlt e.length (ixF e) i x k (x.alts.getD k ⟨0, []⟩)) ++ (if x.op = 13 then [(e.length, i)] else []) := by
  unfold eStat
  rw [if_neg (by omega), if_neg (by omega), if_neg (by omega), if_pos ho]
 rw [hes]
 obtain ⟨bi, hbi⟩ := own_exG hy hil
 have hrowi := rowG hbi
 obtain ⟨ps, hps, harr⟩ := hok.alts
 have hpl : x.alts.length = ps.length := by rw [← hps, List.length_map]
 obtain ⟨ak, uk, hqk, habk, huk, hcellk⟩ := hok.k.get (show 0 < x.kids.length by omega)
 obtain ⟨hk0, hke⟩ := hy.ok.kid hx (k := 0) (by omega)
 have hu0 : uk = (kidN x 0 : Int) := Option.some.inj (huk.symm.trans hke)
 subst hu0
 have habk : ak.block < s0.heap.size := habk
 have hcellk : s0.cell? (ak.add (0 * 1)) = some (.int .i64 (kidN x 0 : Int)) := hcellk
 obtain ⟨k0, hk0'⟩ : ∃ k0, kidN x 0 = k0 := ⟨_, rfl⟩
 rw [hk0'] at hcellk hk0
 obtain ⟨bk0, hbk00⟩ : ∃ b, y.N[k0]? = some b := ⟨y.N[k0], List.getElem?_eq_getElem (by omega)⟩
 have hrow0 := rowG hbk00
 refine enter Tryd.func36 rfl Tryd.ntmps36 rfl hc ?_
 (simp only [argEnv, Nat.zero_add, Nat.reduceAdd])
 unfold flG GY.c exC
 apply W.sr
 apply OL.box; rfl; rfl; exact CellsL.agg; (intro bk hbk; have hbk0 := hbk.mem s0 hs0)
 apply OL.nsr
 apply omv; rfl; rfl
 apply oop; rfl; apply Pev.nil_ptr; rfl; exact yes
 apply ofa; rfl; rfl; rfl
 apply old; rfl; rfl; exact .tail _ (.head _); rfl; rfl
 apply oop; rfl; apply Pev.len_slice; rfl; exact yes; rfl
 apply obn; rfl; rfl; rfl; apply Bin.add_in; omega
 revert hbk0
 revert bk
 intro b5 hb5 hb50
 refine OL.makeSlice (m := y.N.length + 1) rfl rfl rfl rfl rfl (by omega) (by omega) (by omega) ?_
 intro bo hbo
 have hbo0 := hbo.mem s0 hs0
 apply oas; rfl; rfl
 apply OL.nsr
 apply omv; rfl; rfl
 apply omv; rfl; rfl
 apply oop; rfl; apply Pev.nil_ptr; rfl; exact yes
 apply ofa; rfl; rfl; rfl
 apply old; rfl; rfl; exact .tail _ (.tail _ (.head _)); rfl; rfl
 apply oop; rfl; apply Pev.len_slice; rfl; exact yes; rfl
 apply oop; rfl; apply Pev.idxB; rfl; exact yes; rfl; exact yes; rfl; intro hcond; omega; rfl
 (apply OL.storeI); rfl; rfl; rfl; rfl; rfl; (exact Swap.au); (rw [List.length_replicate]; omega)
 have hset : (List.replicate (y.N.length + 1) (.bool false : Value)).set y.N.length (.bool true) = bools (s.R.getD (y.N.length + 1) []) := by rw [hn, only_row, ← hs.only]
 rw [show 0 + (y.N.length : Int).toNat * 1 = y.N.length by omega, hset]
 obtain ⟨PO, hPO⟩ : ∃ PO, PO = (e.length + 1, bo) :: y.P := ⟨_, rfl⟩
 have hPnd : (PO.map Prod.fst).Nodup := by
  rw [hPO, List.map_cons, List.nodup_cons]
  refine ⟨fun hm => ?_, GP_nodup y⟩
  obtain ⟨p, hp, h⟩ := List.mem_map.1 hm
  exact (GP_lt hy p hp).2 h
 have hPlt : ∀ p ∈ PO, p.1 < rowsN e := fun p hp => by
  rw [hPO] at hp
  rcases List.mem_cons.1 hp with rfl | hp
  ·show e.length + 1 < rowsN e
   unfold rowsN
   omega
  ·exact (GP_lt hy p hp).1
 have hPB : ∀ p ∈ PO, y.B ≤ p.2 := fun p hp => by
  rw [hPO] at hp
  rcases List.mem_cons.1 hp with rfl | hp
  ·show y.B ≤ bo
   omega
  ·exact hy.B p hp
 have hPs : ∀ p ∈ y.P, p ∈ PO := fun p hp => by rw [hPO]; exact .tail _ hp
 refine OL.cls (C' := Cls (blk b5 43 [.int .i64 x.op, .int .i64 x.n, .slice xy.b.1 x.binds.length xy.b.2, .slice xy.k.1 x.kids.length xy.k.2, .slice xy.a.1 x.alts.length xy.a.2] :: flGP e y PO s H) S) (fun w' hw' => ?_) ?_
 ·have h1 := hw'.perm (H' := blk bo 4 (bools (s.R.getD (y.N.length + 1) [])) :: bag y.B (setsG 4 s.R y.P) :: blk b5 43 [.int .i64 x.op, .int .i64 x.n, .slice xy.b.1 x.binds.length xy.b.2, .slice xy.k.1 x.kids.length xy.k.2, .slice xy.a.1 x.alts.length xy.a.2] :: blk y.bs 63 (y.c s.mv) :: row y.B y.ON (some ⟨y.gn, 0, none⟩) y.N.length y.cn 60 1 (y.N.map (slG y.N.length)) :: row y.B y.OI y.qi y.D.length y.ci 3 1 (ints (e.flatMap bindersX)) :: row y.B y.OD y.qd y.D.length y.cd 60 1 (y.D.map (slG y.N.length)) :: H) (List.Perm.cons _ ((List.perm_append_comm (l₁ := [_, _]) (l₂ := [_])).append_right _))
  have h2 := h1.bag_in (fun k hk => by rw [show k = bo from hk]; omega)
  have e1 : blk bo 4 (bools (s.R.getD (y.N.length + 1) [])) :: setsG 4 s.R y.P = setsG 4 s.R PO := by rw [hPO, hn]; rfl
  rw [e1] at h2
  exact h2.perm ((List.perm_append_comm (l₁ := [_]) (l₂ := [_, _])).append_right _)
 have hback : ∀ (s' : GS) (w' : World), Cls (flGP e y PO s' H) S w' → Cls (flG e y s' H) S w' := fun s' w' hw' => by
  have h1 := Cls.flip hw'
  have e1 : setsG 4 s'.R PO = blk bo 4 (bools (s'.R.getD (e.length + 1) [])) :: setsG 4 s'.R y.P := by rw [hPO]; rfl
  rw [e1] at h1
  have h2 := h1.bag_out
  have h3 := h2.thin (.any (fun k hk => by rw [show k = bo from hk]; exact hbo) .same)
  exact h3.flip
 apply OL.nx
 apply W.seq
 apply W.sr
 apply ofa; rfl; rfl; rfl
 apply old; rfl; rfl; exact .head _; rfl; rfl
 apply oop; rfl; apply Pev.len_slice; rfl; exact yes; rfl
 apply omv; rfl; rfl
 apply OL.nx
 apply W.block
 refine W.loop (G := Nat × GS) (fun G => G.1 ≤ x.alts.length ∧ RStep e s ((List.range G.1).flatMap fun k => eAlt e.length (ixF e) i x k (x.alts.getD k ⟨0, []⟩)) G.2) (fun G => x.alts.length - G.1)
  (fun G => [(0, true, .pointer (some ⟨y.bs, 0, none⟩)), (1, true, .int .i64 (i : Int)), (5, true, .pointer (some ⟨b5, 0, none⟩)), (6, true, slG y.N.length bo), (27, true, .slice xy.a.1 x.alts.length xy.a.2), (28, true, .int .i64 (x.alts.length : Int)), (29, true, .int .i64 (G.1 : Int))])
  (fun G => Cls (blk b5 43 [.int .i64 x.op, .int .i64 x.n, .slice xy.b.1 x.binds.length xy.b.2, .slice xy.k.1 x.kids.length xy.k.2, .slice xy.a.1 x.alts.length xy.a.2] :: flGP e y PO G.2 H) S) (0, s) ⟨Nat.zero_le _, .nil hs⟩ (by exact Sub.au) (fun w' hw' => hw') ?_
 rintro ⟨k, s1⟩ ⟨hk, hst⟩
 simp only at hk hst ⊢
 have hs1 := hst.ok
 unfold flGP GY.c
 apply W.sr
 apply obn; rfl; rfl; rfl; apply Bin.lss
 apply OL.nx
 apply W.seq
 (refine W.cnd (fun hlt => ?_) (fun hlt => ?_)) <;> (try (exfalso; first | omega | exact hlt trivial | contradiction))
 ·obtain ⟨aa, u, hqa, hab, hu, hcellA, hokA⟩ := harr.get (show k < ps.length by omega)
  have hab : aa.block < s0.heap.size := hab
  have hcellA : CellsAt s0 (aa.add (k * 2)) [.int .i64 u.1.tag, .slice u.2.1 u.1.binds.length u.2.2] := hcellA
  obtain ⟨hok1, hok2, hok3⟩ := hokA
  have hua : x.alts[k]? = some u.1 := by rw [← hps, List.getElem?_map, hu]; rfl
  have hug : x.alts.getD k ⟨0, []⟩ = u.1 := by rw [List.getD_eq_getElem?_getD, hua]; rfl
  apply W.sk
  apply W.sb
  apply W.sr
  apply omv; rfl; rfl
  apply oop; rfl; apply Pev.idxQ; rfl; exact yes; rfl; exact yes; assumption; rfl; rfl; intro hcond; omega
  apply oop; rfl; apply Pev.load_keptA; rfl; exact yes; assumption; rfl; intro hcond; assumption; rfl; intro hcond; (rw [add_block]; assumption); intro hcond; (focus ((try simp only [add_block]); (repeat (first | exact NotOwned.nil | exact hno _ (by omega) | exact hnr _ (by omega) | refine NotOwned.any (hXn _ (by omega)) ?_ | refine NotOwned.blk (by omega) ?_ | refine NotOwned.row (by omega) ?_ | refine NotOwned.rws (by omega) ?_ | refine NotOwned.pile (by omega) ?_ | refine NotOwned.pool (by omega) ?_ | refine NotOwned.bag (by omega) ?_ | refine NotOwned.mapI (by omega) ?_ | apply NotOwned.bif | refine NotOwned.nothing ?_)); done))
  apply OL.alloc; rfl; rfl; exact CellsL.agg; (intro bk hbk; have hbk0 := hbk.mem s0 hs0)
  apply oas; rfl; rfl
  apply OL.storeB; rfl; rfl; exact CellsL.agg; rfl; rfl; rfl; exact Swap.au; exact Put.au
  apply OL.nx
  apply W.seq
  apply W.sr
  apply ofa; rfl; rfl; rfl
  apply old; rfl; rfl; exact .head _; rfl; rfl
  apply oop; rfl; apply Pev.len_slice; rfl; exact yes; rfl
  apply omv; rfl; rfl
  apply OL.nx
  apply W.block
  revert hbk0
  revert bk
  intro b7 hb7 hb70
  refine W.loop (G := Nat × GS) (fun G => G.1 ≤ u.1.binds.length ∧ RStep e s1 ((List.range G.1).map fun m => (ixF e (u.1.binds.getD m 0), srcA e.length x k m)) G.2) (fun G => u.1.binds.length - G.1)
   (fun G => [(0, true, .pointer (some ⟨y.bs, 0, none⟩)), (1, true, .int .i64 (i : Int)), (5, true, .pointer (some ⟨b5, 0, none⟩)), (6, true, slG y.N.length bo), (27, true, .slice xy.a.1 x.alts.length xy.a.2), (28, true, .int .i64 (x.alts.length : Int)), (7, true, .int .i64 (k : Int)), (29, true, .int .i64 (k : Int)), (35, true, .slice u.2.1 u.1.binds.length u.2.2), (36, true, .int .i64 (u.1.binds.length : Int)), (37, true, .int .i64 (G.1 : Int))])
   (fun G => Cls (blk b7 79 [.int .i64 u.1.tag, .slice u.2.1 u.1.binds.length u.2.2] :: blk b5 43 [.int .i64 x.op, .int .i64 x.n, .slice xy.b.1 x.binds.length xy.b.2, .slice xy.k.1 x.kids.length xy.k.2, .slice xy.a.1 x.alts.length xy.a.2] :: flGP e y PO G.2 H) S) (0, s1) ⟨Nat.zero_le _, .nil hs1⟩ (by exact Sub.au) (fun w' hw' => hw') ?_
  rintro ⟨m, s2⟩ ⟨hm, hst2⟩
  simp only at hm hst2 ⊢
  have hs2 := hst2.ok
  unfold flGP GY.c
  apply W.sr
  apply obn; rfl; rfl; rfl; apply Bin.lss
  apply OL.nx
  apply W.seq
  (refine W.cnd (fun hlt2 => ?_) (fun hlt2 => ?_)) <;> (try (exfalso; first | omega | exact hlt2 trivial | contradiction))
  ·obtain ⟨av, v, hqv, habv, hv, hcellv⟩ := hok3.get (show m < u.1.binds.length by omega)
   have habv : av.block < s0.heap.size := habv
   have hcellv : s0.cell? (av.add (m * 1)) = some (.int .i64 v) := hcellv
   have hgv : u.1.binds.getD m 0 = v := by rw [List.getD_eq_getElem?_getD, hv]; rfl
   have hid : v ∈ e.flatMap bindersX := FOk.alt hx (List.mem_of_getElem? hua) (List.mem_of_getElem? hv)
   obtain ⟨bd, hbd⟩ := GD_ex hy hid
   apply W.sk
   apply W.sb
   apply W.sr
   apply omv; rfl; rfl
   apply oop; rfl; apply Pev.idxQ; rfl; exact yes; rfl; exact yes; assumption; rfl; rfl; intro hcond; omega
   apply oop; rfl; apply Pev.load_kept; rfl; exact yes; assumption; rfl; intro hcond; assumption; intro hcond; (rw [add_block]; assumption); intro hcond; (focus ((try simp only [add_block]); (repeat (first | exact NotOwned.nil | exact hno _ (by omega) | exact hnr _ (by omega) | refine NotOwned.any (hXn _ (by omega)) ?_ | refine NotOwned.blk (by omega) ?_ | refine NotOwned.row (by omega) ?_ | refine NotOwned.rws (by omega) ?_ | refine NotOwned.pile (by omega) ?_ | refine NotOwned.pool (by omega) ?_ | refine NotOwned.bag (by omega) ?_ | refine NotOwned.mapI (by omega) ?_ | apply NotOwned.bif | refine NotOwned.nothing ?_)); done))
   apply oas; rfl; rfl
   apply oas; rfl; rfl
   apply OL.nsr
   apply omv; rfl; rfl
   apply oop; rfl; apply Pev.nil_ptr; rfl; exact yes
   apply ofa; rfl; rfl; rfl
   apply old; rfl; rfl; exact .tail _ (.tail _ (.head _)); rfl; rfl
   apply oas; rfl; rfl
   apply OL.nx
   apply W.seq
   apply W.sr
   apply ofa; rfl; rfl; rfl
   apply old; rfl; rfl; exact .tail _ (.head _); rfl; rfl
   apply obn; rfl; rfl; rfl; apply Bin.eql
   apply omv; rfl; rfl
   apply oy; rfl; rfl; rfl; apply Pev.move; rfl; exact yes
   apply oy; rfl; rfl; rfl; apply Pev.bin; rfl; exact fun h => h; rfl; exact yes; intro hcond; apply Bin.eql
   apply oop; rfl; apply Pev.pick_and; rfl; exact yes; rfl; exact fun h => h
   apply OL.nx
   refine W.joinx (G := Nat × Nat) (fun z => z ∈ y.P ∧ z.1 = (if x.op = 13 ∧ k = 0 then k0 else e.length)) (fun z => [(0, true, .pointer (some ⟨y.bs, 0, none⟩)), (1, true, .int .i64 (i : Int)), (5, true, .pointer (some ⟨b5, 0, none⟩)), (6, true, slG y.N.length bo), (27, true, .slice xy.a.1 x.alts.length xy.a.2), (28, true, .int .i64 (x.alts.length : Int)), (7, true, .int .i64 (k : Int)), (29, true, .int .i64 (k : Int)), (35, true, .slice u.2.1 u.1.binds.length u.2.2), (36, true, .int .i64 (u.1.binds.length : Int)), (37, true, .int .i64 (m : Int)), (9, true, .int .i64 (m : Int)), (10, true, .int .i64 v), (11, true, slG y.N.length z.2)])
    (fun _ => Cls (blk b7 79 [.int .i64 u.1.tag, .slice u.2.1 u.1.binds.length u.2.2] :: blk b5 43 [.int .i64 x.op, .int .i64 x.n, .slice xy.b.1 x.binds.length xy.b.2, .slice xy.k.1 x.kids.length xy.k.2, .slice xy.a.1 x.alts.length xy.a.2] :: flGP e y PO s2 H) S) ?_ ?_
   ·refine W.cond rfl (fun hc1 => ?_) (fun hc1 => ?_)
    ·have hc2 : x.op = 13 ∧ k = 0 := by simp only [Bool.and_eq_true, decide_eq_true_eq] at hc1; omega
     apply W.regd0; decide +kernel; kernel_rfl; decide +kernel; exact fun w hw => hw.drew
     apply qmv; rfl; rfl
     apply qop; rfl; apply Pev.nil_ptr; rfl; exact yes
     apply qfa; rfl; rfl; rfl
     apply qld; rfl; rfl; exact .tail _ (.tail _ (.head _)); rfl; rfl
     apply qfa; rfl; rfl; rfl
     apply qld; rfl; rfl; exact .tail _ (.head _); rfl; rfl
     apply qop; rfl; apply Pev.idxQ; rfl; exact yes; rfl; exact yes; assumption; rfl; rfl; intro hcond; (simp only [Bool.and_eq_true, Bool.or_eq_true, Bool.not_eq_true', decide_eq_true_eq, decide_eq_false_iff_not] at *; omega)
     apply qop; rfl; apply Pev.load_kept; rfl; exact yes; assumption; rfl; intro hcond; assumption; intro hcond; assumption; intro hcond; (focus ((try simp only [add_block]); (repeat (first | exact NotOwned.nil | exact hno _ (by omega) | exact hnr _ (by omega) | refine NotOwned.any (hXn _ (by omega)) ?_ | refine NotOwned.blk (by omega) ?_ | refine NotOwned.row (by omega) ?_ | refine NotOwned.rws (by omega) ?_ | refine NotOwned.pile (by omega) ?_ | refine NotOwned.pool (by omega) ?_ | refine NotOwned.bag (by omega) ?_ | refine NotOwned.mapI (by omega) ?_ | apply NotOwned.bif | refine NotOwned.nothing ?_)); done))
     apply qop; rfl; apply Pev.idxB; rfl; exact yes; rfl; exact yes; rfl; intro hcond; omega; rfl
     apply qop; rfl; apply Pev.load_row; rfl; exact yes; apply List.Mem.tail; apply List.Mem.tail; exact .tail _ (.tail _ (.head _)); rfl; assumption
     apply qas; rfl; rfl
     apply QL.nil
     exact At.joinedx (k0, bk0) ⟨GP_node hbk00, by rw [if_pos hc2]⟩ (by exact Sub.au) (fun w' hw' => hw')
    ·have hc2 : ¬ (x.op = 13 ∧ k = 0) := by intro hh; simp only [Bool.and_eq_false_iff, decide_eq_false_iff_not] at hc1; omega
     apply W.skip
     exact At.joinedx (e.length, y.bh) ⟨by rw [← hn]; exact GP_heap, by rw [if_neg hc2]⟩ (by exact Sub.au) (fun w' hw' => hw')
   rintro z ⟨hz, hz1⟩
   unfold flGP GY.c
   apply W.seq
   apply W.sr
   apply ofa; rfl; rfl; rfl
   apply old; rfl; rfl; exact .tail _ (.head _); rfl; rfl
   apply obn; rfl; rfl; rfl; apply Bin.eql
   apply omv; rfl; rfl
   apply oy; rfl; rfl; rfl; apply Pev.move; rfl; exact yes
   apply oy; rfl; rfl; rfl; apply Pev.bin; rfl; exact fun h => h; rfl; exact yes; intro hcond; apply Bin.eql
   apply oop; rfl; apply Pev.pick_and; rfl; exact yes; rfl; exact fun h => h
   apply OL.nx
   refine W.joinx (G := Nat × Nat) (fun z => z ∈ PO ∧ z.1 = srcA e.length x k m) (fun z => [(0, true, .pointer (some ⟨y.bs, 0, none⟩)), (1, true, .int .i64 (i : Int)), (5, true, .pointer (some ⟨b5, 0, none⟩)), (6, true, slG y.N.length bo), (27, true, .slice xy.a.1 x.alts.length xy.a.2), (28, true, .int .i64 (x.alts.length : Int)), (7, true, .int .i64 (k : Int)), (29, true, .int .i64 (k : Int)), (35, true, .slice u.2.1 u.1.binds.length u.2.2), (36, true, .int .i64 (u.1.binds.length : Int)), (37, true, .int .i64 (m : Int)), (9, true, .int .i64 (m : Int)), (10, true, .int .i64 v), (11, true, slG y.N.length z.2)])
    (fun _ => Cls (blk b7 79 [.int .i64 u.1.tag, .slice u.2.1 u.1.binds.length u.2.2] :: blk b5 43 [.int .i64 x.op, .int .i64 x.n, .slice xy.b.1 x.binds.length xy.b.2, .slice xy.k.1 x.kids.length xy.k.2, .slice xy.a.1 x.alts.length xy.a.2] :: flGP e y PO s2 H) S) ?_ ?_
   ·refine W.cond rfl (fun hd1 => ?_) (fun hd1 => ?_)
    ·have hd2 : x.op = 13 ∧ m = 1 := by simp only [Bool.and_eq_true, decide_eq_true_eq] at hd1; omega
     have hk00 : k ≠ 0 := fun hk00 => by
      subst hk00
      have := hsh.h0 hd2.1 u.1 hua
      omega
     apply W.reg
     apply omv; rfl; rfl
     apply oas; rfl; rfl
     apply OL.nil
     exact At.joinedx (e.length + 1, bo) ⟨by rw [hPO]; exact .head _, by unfold srcA; rw [if_neg (by omega), if_pos hd2]⟩ (by exact Sub.au) (fun w' hw' => hw')
    ·have hd2 : ¬ (x.op = 13 ∧ m = 1) := by intro hh; simp only [Bool.and_eq_false_iff, decide_eq_false_iff_not] at hd1; omega
     apply W.skip
     exact At.joinedx z ⟨hPs z hz, by rw [hz1]; unfold srcA; rw [hk0', if_neg hd2]⟩ (by exact Sub.au) (fun w' hw' => hw')
   rintro ⟨q, c⟩ ⟨hz, hz1⟩
   simp only at hz1 ⊢
   unfold flGP GY.c
   apply W.reg
   apply omv; rfl; rfl
   apply omv; rfl; rfl
   apply omv; rfl; rfl
   (((first | (with_reducible apply OL.op) | (with_reducible apply QL.op)); (exact Guard.au); rfl; rfl); (exact Pev.call (v := slG y.N.length bd) rfl (by exact Args.au) (fun _ w2 hw2 => (identP_calls e y PO s2 hy v hid bd hbd _ S w2 (flGPX2.1 hw2)).mono (fun e1 w3 ⟨h1, h2⟩ => ⟨h1, flGPX2.2 h2⟩))))
   apply omv; rfl; rfl
   refine OL.callE (α := Unit) (fun _ => .tuple #[]) (fun _ => GSOk e (s2.into (ixF e v) q)) (fun _ => Cls (blk b7 79 [.int .i64 u.1.tag, .slice u.2.1 u.1.binds.length u.2.2] :: blk b5 43 [.int .i64 x.op, .int .i64 x.n, .slice xy.b.1 x.binds.length xy.b.2, .slice xy.k.1 x.kids.length xy.k.2, .slice xy.a.1 x.alts.length xy.a.2] :: flGP e y PO (s2.into (ixF e v) q) H) S) rfl rfl (by exact Args.au) (fun w2 hw2 => (toP_calls e y PO s2 hy (by assumption) (ixF e v) bd q c (hPs _ (GP_id hy hbd)) hz hPnd hPlt hPB (by unfold ixF; omega) _ S w2 (flGPX2.1 hw2)).mono (fun e1 w3 ⟨h1, h2, h3⟩ => ⟨(), h1, h2, flGPX2.2 h3⟩)) ?_
   rintro ⟨⟩ hs4
   apply OL.nil
   with_reducible apply At.in_normal
   with_reducible apply At.next
   apply W.reg
   apply obn; rfl; rfl; rfl; apply Bin.add_in; omega
   apply omv; rfl; rfl
   apply OL.nil
   refine At.again (m + 1, s2.into (ixF e v) q) ⟨by omega, ?_⟩ (by simp only; omega) (by exact Sub.au) (fun w' hw' => hw')
   rw [List.range_succ, List.map_append, List.map_singleton, hgv, ← hz1]
   exact hst2.app hs1 (.one hs4)
  ·obtain rfl : m = u.1.binds.length := by omega
   obtain ⟨ak2, uk2, hqk2, habk2, huk2, hcellk2⟩ := hok.k.get (show k + 1 < x.kids.length by omega)
   obtain ⟨hk2, hke2⟩ := hy.ok.kid hx (k := k + 1) (by omega)
   have hu2 : uk2 = (kidN x (k + 1) : Int) := Option.some.inj (huk2.symm.trans hke2)
   subst hu2
   obtain rfl : ak = ak2 := Option.some.inj (hqk.symm.trans hqk2)
   obtain ⟨k1, hk1'⟩ : ∃ k1, kidN x (k + 1) = k1 := ⟨_, rfl⟩
   rw [hk1'] at hcellk2 hk2
   have hcellk1 : s0.cell? (ak.add (((k : Int) + 1).toNat * 1)) = some (.int .i64 (k1 : Int)) := by rw [show ((k : Int) + 1).toNat = k + 1 by omega]; exact hcellk2
   obtain ⟨bk1, hbk1⟩ : ∃ b, y.N[k1]? = some b := ⟨y.N[k1], List.getElem?_eq_getElem (by omega)⟩
   have hrow1 := rowG hbk1
   have hea : eAlt e.length (ixF e) i x k u.1 = ((List.range u.1.binds.length).map fun m => (ixF e (u.1.binds.getD m 0), srcA e.length x k m)) ++ [(i, k1)] := by unfold eAlt; rw [hk1']
   refine W.xt ?_
   with_reducible apply At.next
   refine W.regn 20 (by (repeat (first | exact SplitN.z | apply SplitN.s))) (by kernel_rfl) (by decide +kernel) (fun w hw => hw.drew) ?_
   apply qmv; rfl; rfl
   apply qmv; rfl; rfl
   apply qop; rfl; apply Pev.nil_ptr; rfl; exact yes
   apply qfa; rfl; rfl; rfl
   apply qld; rfl; rfl; exact .tail _ (.tail _ (.head _)); rfl; rfl
   apply qmv; rfl; rfl
   apply qop; rfl; apply Pev.idxB; rfl; exact yes; rfl; exact yes; rfl; intro hcond; omega; rfl
   apply qop; rfl; apply Pev.load_row; rfl; exact yes; apply List.Mem.tail; apply List.Mem.tail; exact .tail _ (.tail _ (.head _)); rfl; assumption
   apply qmv; rfl; rfl
   apply qop; rfl; apply Pev.nil_ptr; rfl; exact yes
   apply qfa; rfl; rfl; rfl
   apply qld; rfl; rfl; exact .tail _ (.tail _ (.head _)); rfl; rfl
   apply qfa; rfl; rfl; rfl
   apply qld; rfl; rfl; exact .tail _ (.head _); rfl; rfl
   apply qmv; rfl; rfl
   apply qbn; rfl; rfl; rfl; apply Bin.add_in; omega
   apply qop; rfl; apply Pev.idxQ; rfl; exact yes; rfl; exact yes; assumption; rfl; rfl; intro hcond; (simp only [Bool.and_eq_true, Bool.or_eq_true, Bool.not_eq_true', decide_eq_true_eq, decide_eq_false_iff_not] at *; omega)
   apply qop; rfl; apply Pev.load_kept; rfl; exact yes; assumption; rfl; intro hcond; assumption; intro hcond; assumption; intro hcond; (focus ((try simp only [add_block]); (repeat (first | exact NotOwned.nil | exact hno _ (by omega) | exact hnr _ (by omega) | refine NotOwned.any (hXn _ (by omega)) ?_ | refine NotOwned.blk (by omega) ?_ | refine NotOwned.row (by omega) ?_ | refine NotOwned.rws (by omega) ?_ | refine NotOwned.pile (by omega) ?_ | refine NotOwned.pool (by omega) ?_ | refine NotOwned.bag (by omega) ?_ | refine NotOwned.mapI (by omega) ?_ | apply NotOwned.bif | refine NotOwned.nothing ?_)); done))
   apply qop; rfl; apply Pev.idxB; rfl; exact yes; rfl; exact yes; rfl; intro hcond; omega; rfl
   apply qop; rfl; apply Pev.load_row; rfl; exact yes; apply List.Mem.tail; apply List.Mem.tail; exact .tail _ (.tail _ (.head _)); rfl; assumption
   with_reducible apply QL.tail
   refine OL.callE (α := Unit) (fun _ => .tuple #[]) (fun _ => GSOk e (s2.into i k1)) (fun _ => Cls (blk b7 79 [.int .i64 u.1.tag, .slice u.2.1 u.1.binds.length u.2.2] :: blk b5 43 [.int .i64 x.op, .int .i64 x.n, .slice xy.b.1 x.binds.length xy.b.2, .slice xy.k.1 x.kids.length xy.k.2, .slice xy.a.1 x.alts.length xy.a.2] :: flGP e y PO (s2.into i k1) H) S) rfl rfl (by exact Args.au) (fun w2 hw2 => (toP_calls e y PO s2 hy (by assumption) i bi k1 bk1 (hPs _ (GP_node hbi)) (hPs _ (GP_node hbk1)) hPnd hPlt hPB (by omega) _ S w2 (flGPX2.1 hw2)).mono (fun e1 w3 ⟨h1, h2, h3⟩ => ⟨(), h1, h2, flGPX2.2 h3⟩)) ?_
   rintro ⟨⟩ hs4
   apply OL.nil
   with_reducible apply At.in_normal
   with_reducible apply At.next
   apply W.reg
   apply obn; rfl; rfl; rfl; apply Bin.add_in; omega
   apply omv; rfl; rfl
   apply OL.nil
   refine At.again (k + 1, s2.into i k1) ⟨by omega, ?_⟩ (by simp only; omega) (by exact Sub.au) (fun w' hw' => hw'.thin (.any (fun k hk => by rw [show k = b7 from hk]; exact hb7) .same))
   rw [List.range_succ, List.flatMap_append, List.flatMap_singleton, hug, hea]
   exact hst.app hs (hst2.app hs1 (.one hs4))
 ·obtain rfl : k = x.alts.length := by omega
  refine W.xt ?_
  with_reducible apply At.next
  apply W.sr
  apply ofa; rfl; rfl; rfl
  apply old; rfl; rfl; exact .head _; rfl; rfl
  apply obn; rfl; rfl; rfl; apply Bin.eql
  apply OL.nx
  refine W.cond rfl (fun h13 => ?_) (fun h13 => ?_)
  ·have h13 : x.op = 13 := by simpa using h13
   rw [if_pos h13]
   skip
   refine W.regn 12 (by (repeat (first | exact SplitN.z | apply SplitN.s))) (by kernel_rfl) (by decide +kernel) (fun w hw => hw.drew) ?_
   apply qmv; rfl; rfl
   apply qmv; rfl; rfl
   apply qop; rfl; apply Pev.nil_ptr; rfl; exact yes
   apply qfa; rfl; rfl; rfl
   apply qld; rfl; rfl; exact .tail _ (.head _); rfl; rfl
   apply qmv; rfl; rfl
   apply qop; rfl; apply Pev.nil_ptr; rfl; exact yes
   apply qfa; rfl; rfl; rfl
   apply qld; rfl; rfl; exact .tail _ (.head _); rfl; rfl
   apply qmv; rfl; rfl
   apply qop; rfl; apply Pev.idxB; rfl; exact yes; rfl; exact yes; rfl; intro hcond; omega; rfl
   apply qop; rfl; apply Pev.load_row; rfl; exact yes; apply List.Mem.tail; exact .tail _ (.tail _ (.head _)); rfl; assumption
   with_reducible apply QL.tail
   refine OL.callE (α := Unit) (fun _ => .tuple #[]) (fun _ => GSOk e (s1.into e.length i)) (fun _ => Cls (blk b5 43 [.int .i64 x.op, .int .i64 x.n, .slice xy.b.1 x.binds.length xy.b.2, .slice xy.k.1 x.kids.length xy.k.2, .slice xy.a.1 x.alts.length xy.a.2] :: flGP e y PO (s1.into e.length i) H) S) rfl rfl (by exact Args.au) (fun w2 hw2 => (toP_calls e y PO s1 hy (by assumption) e.length y.bh i bi (hPs _ (by rw [← hn]; exact GP_heap)) (hPs _ (GP_node hbi)) hPnd hPlt hPB (by omega) _ S w2 (flGPX.1 hw2)).mono (fun e1 w3 ⟨h1, h2, h3⟩ => ⟨(), h1, h2, flGPX.2 h3⟩)) ?_
   rintro ⟨⟩ hs4
   apply OL.nil
   refine At.end_ (At.fin0 rfl (fun w' hw' => ⟨_, rfl, hst.app hs (.one hs4), hback _ w' (hw'.thin (.any (fun k hk => by rw [show k = b5 from hk]; exact hb5) .same))⟩))
  ·have h13 : ¬ x.op = 13 := by simpa using h13
   rw [if_neg h13, List.append_nil]
   apply W.skip
   refine At.end_ (At.fin0 rfl (fun w' hw' => ⟨_, rfl, hst, hback _ w' (hw'.thin (.any (fun k hk => by rw [show k = b5 from hk]; exact hb5) .same))⟩))
end Go.Proofs.YtkpjndhgicbjjaaDoor.co

/- The walk of the reference's Flows.node: simple operations. Conditions: none. -/
namespace Go.Proofs.YtkpjndhgicbjjaaDoor.co
open Go.RowKit Go.Eng Go.Co
set_option maxRecDepth 100000
theorem gnode_set (s0 : World) (e : List Ex) (y : GY) (hy : GYOk e y) (hyB : s0.heap.size ≤ y.B) (hbs : s0.heap.size ≤ y.bs) (i : Nat) (x : Ex) (xy : ExY) (hx : e[i]? = some x) (hok : ExOk s0 (low s0) x xy) (ho : x.op = 11)
  (s : GS) (hs : GSOk e s) (H : List Eng.Item) (hno : ∀ k, k < s0.heap.size → NotOwned H k) (S : List World) (hs0 : s0 ∈ S) (hSS : ∀ s ∈ S, s.heap.size ≤ s0.heap.size) (w : World) (hc : Cls (flG e y s H) S w) :
  Calls Tryd.prog 20 [.pointer (some ⟨y.bs, 0, none⟩), .int .i64 (i : Int), .agg (exC x xy).toArray].toArray w fun r w' => ∃ s', r = .returned (.tuple #[]) ∧ RStep e s (eStat e.length (ixF e) i x) s' ∧ Cls (flG e y s' H) S w' := by
 have hsh := hy.ok.sh i x hx
 have hn := hy.len
 have hlen := hy.ok.len
 have hil := (List.getElem?_eq_some_iff.1 hx).1
 have hkl := hok.kl
 have hbl := hok.bl
 have hLim : ∀ k, s0.heap.size ≤ k → AllLe S k := fun k hk => AllLe.of fun s hs => Nat.le_trans (hSS s hs) hk
 obtain ⟨bi, hbi⟩ := own_exG hy hil
 have hrowi := rowG hbi
 have hkk := hsh.two ho
 obtain ⟨bk1, hbk1⟩ := kid_exG hy hx (k := 1) (by omega)
 have hes : eStat e.length (ixF e) i x = [(e.length, kidN x 1)] := by
  unfold eStat
  simp [ho]
 rw [hes]
 refine enter Tryd.func20 rfl Tryd.ntmps20 rfl hc ?_
 (simp only [argEnv, Nat.zero_add, Nat.reduceAdd])
 unfold flG GY.c exC
 apply W.sr
 apply OL.box; rfl; rfl; exact CellsL.one rfl; (intro bk hbk; have hbk0 := hbk.mem s0 hs0)
 apply OL.box; rfl; rfl; exact CellsL.agg; (intro bk hbk; have hbk0 := hbk.mem s0 hs0)
 apply OL.nsr
 apply old; rfl; rfl; exact .tail _ (.head _); rfl; rfl
 apply oop; rfl; apply Pev.nil_ptr; rfl; exact yes
 apply ofa; rfl; rfl; rfl
 apply old; rfl; rfl; exact .tail _ (.tail _ (.head _)); rfl; rfl
 apply omv; rfl; rfl
 apply oop; rfl; apply Pev.idxB; rfl; exact yes; rfl; exact yes; rfl; intro hcond; omega; rfl
 apply oop; rfl; apply Pev.load_row; rfl; exact yes; apply List.Mem.tail; apply List.Mem.tail; exact .tail _ (.tail _ (.head _)); rfl; assumption
 apply oas; rfl; rfl
 apply OL.nsr
 apply oop; rfl; apply Pev.makeFunc; exact Args.au; exact Args.au
 apply oas; rfl; rfl
 apply OL.nsr
 apply ofa; rfl; rfl; rfl
 apply old; rfl; rfl; exact .head _; rfl; rfl
 apply OL.nx
 apply W.block
 refine W.no ?_
 refine W.no ?_
 apply W.seq
 refine W.no ?_
 refine W.noR ?_
 with_reducible apply At.next
 refine W.cF ?_
 refine W.no ?_
 apply W.seq
 refine W.no ?_
 refine W.noR ?_
 with_reducible apply At.next
 refine W.cF ?_
 refine W.no ?_
 refine W.yes ?_
 revert hbk0
 revert bk
 revert hbk0
 revert bk
 intro b3 hb3 hb30 b5 hb5 hb50
 refine W.regn 7 (by (repeat (first | exact SplitN.z | apply SplitN.s))) (by kernel_rfl) (by decide +kernel) (fun w hw => hw.drew) ?_
 apply qld; rfl; rfl; exact .tail _ (.head _); rfl; rfl
 apply qld; rfl; rfl; exact .tail _ (.head _); rfl; rfl
 apply qop; rfl; apply Pev.nil_ptr; rfl; exact yes
 apply qfa; rfl; rfl; rfl
 apply qld; rfl; rfl; exact .tail _ (.tail _ (.head _)); rfl; rfl
 apply qmv; rfl; rfl
 (((first | (with_reducible apply OL.op) | (with_reducible apply QL.op)); (exact Guard.au); rfl; rfl); (exact Pev.callv (first := []) (cap := [.pointer (some ⟨b3, 0, none⟩), .pointer (some ⟨b5, 0, none⟩)]) (v := slG y.N.length bk1) rfl (by (first | exact fun _ => rfl | exact fun h => h | (intro h; simp_all; done))) rfl (by exact Args.au) (fun _ w2 hw2 => kidV_calls s0 e y hy hyB hbs i x xy hx hok b3 b5 hb30 hb50 s 1 (by omega) bk1 hbk1 H hno S hs0 w2 hw2)))
 with_reducible apply QL.tail
 refine OL.callE (α := Unit) (fun _ => .tuple #[]) (fun _ => GSOk e (s.into e.length (kidN x 1))) (fun _ => Cls (cbI y b3 b5 x xy (flG e y (s.into e.length (kidN x 1)) H)) S) rfl rfl (by exact Args.au) (fun w2 hw2 => toB_calls e y _ hy (by assumption) e.length y.bh (kidN x 1) bk1 (by rw [← hn]; exact GP_heap) (GP_node hbk1) b3 b5 x xy H S w2 hw2) ?_
 rintro ⟨⟩ hs1
 apply OL.nil
 with_reducible apply At.in_normal
 refine At.end_ (At.fin0 rfl (fun w' hw' => ⟨_, rfl, .one hs1, hw'.thin (.any (fun k hk => by rw [show k = b5 from hk]; exact hb5) (.any (fun k hk => by rw [show k = b3 from hk]; exact hb3) .same))⟩))
theorem gnode_perform (s0 : World) (e : List Ex) (y : GY) (hy : GYOk e y) (hyB : s0.heap.size ≤ y.B) (hbs : s0.heap.size ≤ y.bs) (i : Nat) (x : Ex) (xy : ExY) (hx : e[i]? = some x) (hok : ExOk s0 (low s0) x xy) (ho : x.op = 12)
  (s : GS) (hs : GSOk e s) (H : List Eng.Item) (hno : ∀ k, k < s0.heap.size → NotOwned H k) (S : List World) (hs0 : s0 ∈ S) (hSS : ∀ s ∈ S, s.heap.size ≤ s0.heap.size) (w : World) (hc : Cls (flG e y s H) S w) :
  Calls Tryd.prog 20 [.pointer (some ⟨y.bs, 0, none⟩), .int .i64 (i : Int), .agg (exC x xy).toArray].toArray w fun r w' => ∃ s', r = .returned (.tuple #[]) ∧ RStep e s (eStat e.length (ixF e) i x) s' ∧ Cls (flG e y s' H) S w' := by
 have hsh := hy.ok.sh i x hx
 have hn := hy.len
 have hlen := hy.ok.len
 have hil := (List.getElem?_eq_some_iff.1 hx).1
 have hkl := hok.kl
 have hbl := hok.bl
 have hLim : ∀ k, s0.heap.size ≤ k → AllLe S k := fun k hk => AllLe.of fun s hs => Nat.le_trans (hSS s hs) hk
 obtain ⟨bi, hbi⟩ := own_exG hy hil
 have hrowi := rowG hbi
 have hkk := hsh.one ho
 obtain ⟨bk1, hbk1⟩ := kid_exG hy hx (k := 0) (by omega)
 have hes : eStat e.length (ixF e) i x = [(e.length, kidN x 0)] ++ [(i, e.length)] := by
  unfold eStat
  simp [ho]
 rw [hes]
 refine enter Tryd.func20 rfl Tryd.ntmps20 rfl hc ?_
 (simp only [argEnv, Nat.zero_add, Nat.reduceAdd])
 unfold flG GY.c exC
 apply W.sr
 apply OL.box; rfl; rfl; exact CellsL.one rfl; (intro bk hbk; have hbk0 := hbk.mem s0 hs0)
 apply OL.box; rfl; rfl; exact CellsL.agg; (intro bk hbk; have hbk0 := hbk.mem s0 hs0)
 apply OL.nsr
 apply old; rfl; rfl; exact .tail _ (.head _); rfl; rfl
 apply oop; rfl; apply Pev.nil_ptr; rfl; exact yes
 apply ofa; rfl; rfl; rfl
 apply old; rfl; rfl; exact .tail _ (.tail _ (.head _)); rfl; rfl
 apply omv; rfl; rfl
 apply oop; rfl; apply Pev.idxB; rfl; exact yes; rfl; exact yes; rfl; intro hcond; omega; rfl
 apply oop; rfl; apply Pev.load_row; rfl; exact yes; apply List.Mem.tail; apply List.Mem.tail; exact .tail _ (.tail _ (.head _)); rfl; assumption
 apply oas; rfl; rfl
 apply OL.nsr
 apply oop; rfl; apply Pev.makeFunc; exact Args.au; exact Args.au
 apply oas; rfl; rfl
 apply OL.nsr
 apply ofa; rfl; rfl; rfl
 apply old; rfl; rfl; exact .head _; rfl; rfl
 apply OL.nx
 apply W.block
 refine W.no ?_
 refine W.no ?_
 apply W.seq
 refine W.no ?_
 refine W.noR ?_
 with_reducible apply At.next
 refine W.cF ?_
 refine W.no ?_
 apply W.seq
 refine W.no ?_
 refine W.noR ?_
 with_reducible apply At.next
 refine W.cF ?_
 refine W.no ?_
 refine W.no ?_
 refine W.yes ?_
 apply W.seq
 revert hbk0
 revert bk
 revert hbk0
 revert bk
 intro b3 hb3 hb30 b5 hb5 hb50
 refine W.regn 7 (by (repeat (first | exact SplitN.z | apply SplitN.s))) (by kernel_rfl) (by decide +kernel) (fun w hw => hw.drew) ?_
 apply qld; rfl; rfl; exact .tail _ (.head _); rfl; rfl
 apply qld; rfl; rfl; exact .tail _ (.head _); rfl; rfl
 apply qop; rfl; apply Pev.nil_ptr; rfl; exact yes
 apply qfa; rfl; rfl; rfl
 apply qld; rfl; rfl; exact .tail _ (.tail _ (.head _)); rfl; rfl
 apply qmv; rfl; rfl
 (((first | (with_reducible apply OL.op) | (with_reducible apply QL.op)); (exact Guard.au); rfl; rfl); (exact Pev.callv (first := []) (cap := [.pointer (some ⟨b3, 0, none⟩), .pointer (some ⟨b5, 0, none⟩)]) (v := slG y.N.length bk1) rfl (by (first | exact fun _ => rfl | exact fun h => h | (intro h; simp_all; done))) rfl (by exact Args.au) (fun _ w2 hw2 => kidV_calls s0 e y hy hyB hbs i x xy hx hok b3 b5 hb30 hb50 s 0 (by omega) bk1 hbk1 H hno S hs0 w2 hw2)))
 with_reducible apply QL.tail
 refine OL.callE (α := Unit) (fun _ => .tuple #[]) (fun _ => GSOk e (s.into e.length (kidN x 0))) (fun _ => Cls (cbI y b3 b5 x xy (flG e y (s.into e.length (kidN x 0)) H)) S) rfl rfl (by exact Args.au) (fun w2 hw2 => toB_calls e y _ hy (by assumption) e.length y.bh (kidN x 0) bk1 (by rw [← hn]; exact GP_heap) (GP_node hbk1) b3 b5 x xy H S w2 hw2) ?_
 rintro ⟨⟩ hs1
 unfold cbI flG GY.c
 apply OL.nx
 refine W.regn 6 (by (repeat (first | exact SplitN.z | apply SplitN.s))) (by kernel_rfl) (by decide +kernel) (fun w hw => hw.drew) ?_
 apply qld; rfl; rfl; exact .tail _ (.head _); rfl; rfl
 apply qmv; rfl; rfl
 apply qld; rfl; rfl; exact .tail _ (.head _); rfl; rfl
 apply qop; rfl; apply Pev.nil_ptr; rfl; exact yes
 apply qfa; rfl; rfl; rfl
 apply qld; rfl; rfl; exact .tail _ (.tail _ (.head _)); rfl; rfl
 with_reducible apply QL.tail
 refine OL.callE (α := Unit) (fun _ => .tuple #[]) (fun _ => GSOk e ((s.into e.length (kidN x 0)).into i e.length)) (fun _ => Cls (cbI y b3 b5 x xy (flG e y ((s.into e.length (kidN x 0)).into i e.length) H)) S) rfl rfl (by exact Args.au) (fun w2 hw2 => toB_calls e y _ hy (by assumption) i bi e.length y.bh (GP_node hbi) (by rw [← hn]; exact GP_heap) b3 b5 x xy H S w2 hw2) ?_
 rintro ⟨⟩ hs2
 apply OL.nil
 with_reducible apply At.in_normal
 refine At.end_ (At.fin0 rfl (fun w' hw' => ⟨_, rfl, RStep.app hs (.one hs1) (.one hs2), hw'.thin (.any (fun k hk => by rw [show k = b5 from hk]; exact hb5) (.any (fun k hk => by rw [show k = b3 from hk]; exact hb3) .same))⟩))
theorem gnode_get (s0 : World) (e : List Ex) (y : GY) (hy : GYOk e y) (hyB : s0.heap.size ≤ y.B) (hbs : s0.heap.size ≤ y.bs) (i : Nat) (x : Ex) (xy : ExY) (hx : e[i]? = some x) (hok : ExOk s0 (low s0) x xy) (ho : x.op = 10)
  (s : GS) (hs : GSOk e s) (H : List Eng.Item) (hno : ∀ k, k < s0.heap.size → NotOwned H k) (S : List World) (hs0 : s0 ∈ S) (hSS : ∀ s ∈ S, s.heap.size ≤ s0.heap.size) (w : World) (hc : Cls (flG e y s H) S w) :
  Calls Tryd.prog 20 [.pointer (some ⟨y.bs, 0, none⟩), .int .i64 (i : Int), .agg (exC x xy).toArray].toArray w fun r w' => ∃ s', r = .returned (.tuple #[]) ∧ RStep e s (eStat e.length (ixF e) i x) s' ∧ Cls (flG e y s' H) S w' := by
 have hsh := hy.ok.sh i x hx
 have hn := hy.len
 have hlen := hy.ok.len
 have hil := (List.getElem?_eq_some_iff.1 hx).1
 have hkl := hok.kl
 have hbl := hok.bl
 have hLim : ∀ k, s0.heap.size ≤ k → AllLe S k := fun k hk => AllLe.of fun s hs => Nat.le_trans (hSS s hs) hk
 obtain ⟨bi, hbi⟩ := own_exG hy hil
 have hrowi := rowG hbi
 have hes : eStat e.length (ixF e) i x = [(i, e.length)] := by
  unfold eStat
  simp [ho]
 rw [hes]
 refine enter Tryd.func20 rfl Tryd.ntmps20 rfl hc ?_
 (simp only [argEnv, Nat.zero_add, Nat.reduceAdd])
 unfold flG GY.c exC
 apply W.sr
 apply OL.box; rfl; rfl; exact CellsL.one rfl; (intro bk hbk; have hbk0 := hbk.mem s0 hs0)
 apply OL.box; rfl; rfl; exact CellsL.agg; (intro bk hbk; have hbk0 := hbk.mem s0 hs0)
 apply OL.nsr
 apply old; rfl; rfl; exact .tail _ (.head _); rfl; rfl
 apply oop; rfl; apply Pev.nil_ptr; rfl; exact yes
 apply ofa; rfl; rfl; rfl
 apply old; rfl; rfl; exact .tail _ (.tail _ (.head _)); rfl; rfl
 apply omv; rfl; rfl
 apply oop; rfl; apply Pev.idxB; rfl; exact yes; rfl; exact yes; rfl; intro hcond; omega; rfl
 apply oop; rfl; apply Pev.load_row; rfl; exact yes; apply List.Mem.tail; apply List.Mem.tail; exact .tail _ (.tail _ (.head _)); rfl; assumption
 apply oas; rfl; rfl
 apply OL.nsr
 apply oop; rfl; apply Pev.makeFunc; exact Args.au; exact Args.au
 apply oas; rfl; rfl
 apply OL.nsr
 apply ofa; rfl; rfl; rfl
 apply old; rfl; rfl; exact .head _; rfl; rfl
 apply OL.nx
 apply W.block
 refine W.no ?_
 refine W.no ?_
 apply W.seq
 refine W.no ?_
 refine W.noR ?_
 with_reducible apply At.next
 refine W.cF ?_
 refine W.no ?_
 apply W.seq
 refine W.no ?_
 refine W.noR ?_
 with_reducible apply At.next
 refine W.cF ?_
 refine W.yes ?_
 revert hbk0
 revert bk
 revert hbk0
 revert bk
 intro b3 hb3 hb30 b5 hb5 hb50
 refine W.regn 6 (by (repeat (first | exact SplitN.z | apply SplitN.s))) (by kernel_rfl) (by decide +kernel) (fun w hw => hw.drew) ?_
 apply qld; rfl; rfl; exact .tail _ (.head _); rfl; rfl
 apply qmv; rfl; rfl
 apply qld; rfl; rfl; exact .tail _ (.head _); rfl; rfl
 apply qop; rfl; apply Pev.nil_ptr; rfl; exact yes
 apply qfa; rfl; rfl; rfl
 apply qld; rfl; rfl; exact .tail _ (.tail _ (.head _)); rfl; rfl
 with_reducible apply QL.tail
 refine OL.callE (α := Unit) (fun _ => .tuple #[]) (fun _ => GSOk e (s.into i e.length)) (fun _ => Cls (cbI y b3 b5 x xy (flG e y (s.into i e.length) H)) S) rfl rfl (by exact Args.au) (fun w2 hw2 => toB_calls e y _ hy (by assumption) i bi e.length y.bh (GP_node hbi) (by rw [← hn]; exact GP_heap) b3 b5 x xy H S w2 hw2) ?_
 rintro ⟨⟩ hs1
 apply OL.nil
 with_reducible apply At.in_normal
 refine At.end_ (At.fin0 rfl (fun w' hw' => ⟨_, rfl, .one hs1, hw'.thin (.any (fun k hk => by rw [show k = b5 from hk]; exact hb5) (.any (fun k hk => by rw [show k = b3 from hk]; exact hb3) .same))⟩))
theorem gnode_var (s0 : World) (e : List Ex) (y : GY) (hy : GYOk e y) (hyB : s0.heap.size ≤ y.B) (hbs : s0.heap.size ≤ y.bs) (i : Nat) (x : Ex) (xy : ExY) (hx : e[i]? = some x) (hok : ExOk s0 (low s0) x xy) (ho : x.op = 0)
  (s : GS) (hs : GSOk e s) (H : List Eng.Item) (hno : ∀ k, k < s0.heap.size → NotOwned H k) (S : List World) (hs0 : s0 ∈ S) (hSS : ∀ s ∈ S, s.heap.size ≤ s0.heap.size) (w : World) (hc : Cls (flG e y s H) S w) :
  Calls Tryd.prog 20 [.pointer (some ⟨y.bs, 0, none⟩), .int .i64 (i : Int), .agg (exC x xy).toArray].toArray w fun r w' => ∃ s', r = .returned (.tuple #[]) ∧ RStep e s (eStat e.length (ixF e) i x) s' ∧ Cls (flG e y s' H) S w' := by
 have hsh := hy.ok.sh i x hx
 have hn := hy.len
 have hlen := hy.ok.len
 have hil := (List.getElem?_eq_some_iff.1 hx).1
 have hkl := hok.kl
 have hbl := hok.bl
 have hLim : ∀ k, s0.heap.size ≤ k → AllLe S k := fun k hk => AllLe.of fun s hs => Nat.le_trans (hSS s hs) hk
 obtain ⟨bi, hbi⟩ := own_exG hy hil
 have hrowi := rowG hbi
 have hid := hy.ok.var i x hx ho
 obtain ⟨bd, hbd⟩ := GD_ex hy hid
 have hes : eStat e.length (ixF e) i x = [(i, ixF e x.n)] := by
  unfold eStat
  simp [ho]
 rw [hes]
 refine enter Tryd.func20 rfl Tryd.ntmps20 rfl hc ?_
 (simp only [argEnv, Nat.zero_add, Nat.reduceAdd])
 unfold flG GY.c exC
 apply W.sr
 apply OL.box; rfl; rfl; exact CellsL.one rfl; (intro bk hbk; have hbk0 := hbk.mem s0 hs0)
 apply OL.box; rfl; rfl; exact CellsL.agg; (intro bk hbk; have hbk0 := hbk.mem s0 hs0)
 apply OL.nsr
 apply old; rfl; rfl; exact .tail _ (.head _); rfl; rfl
 apply oop; rfl; apply Pev.nil_ptr; rfl; exact yes
 apply ofa; rfl; rfl; rfl
 apply old; rfl; rfl; exact .tail _ (.tail _ (.head _)); rfl; rfl
 apply omv; rfl; rfl
 apply oop; rfl; apply Pev.idxB; rfl; exact yes; rfl; exact yes; rfl; intro hcond; omega; rfl
 apply oop; rfl; apply Pev.load_row; rfl; exact yes; apply List.Mem.tail; apply List.Mem.tail; exact .tail _ (.tail _ (.head _)); rfl; assumption
 apply oas; rfl; rfl
 apply OL.nsr
 apply oop; rfl; apply Pev.makeFunc; exact Args.au; exact Args.au
 apply oas; rfl; rfl
 apply OL.nsr
 apply ofa; rfl; rfl; rfl
 apply old; rfl; rfl; exact .head _; rfl; rfl
 apply OL.nx
 apply W.block
 refine W.yes ?_
 revert hbk0
 revert bk
 revert hbk0
 revert bk
 intro b3 hb3 hb30 b5 hb5 hb50
 refine W.regn 6 (by (repeat (first | exact SplitN.z | apply SplitN.s))) (by kernel_rfl) (by decide +kernel) (fun w hw => hw.drew) ?_
 apply qld; rfl; rfl; exact .tail _ (.head _); rfl; rfl
 apply qmv; rfl; rfl
 apply qld; rfl; rfl; exact .tail _ (.head _); rfl; rfl
 apply qfa; rfl; rfl; rfl
 apply qld; rfl; rfl; exact .head _; rfl; rfl
 (((first | (with_reducible apply OL.op) | (with_reducible apply QL.op)); (exact Guard.au); rfl; rfl); (exact Pev.call (v := slG y.N.length bd) rfl (by exact Args.au) (fun _ w2 hw2 => identB_calls e y s hy x.n hid bd hbd b3 b5 x xy H S w2 hw2)))
 with_reducible apply QL.tail
 refine OL.callE (α := Unit) (fun _ => .tuple #[]) (fun _ => GSOk e (s.into i (ixF e x.n))) (fun _ => Cls (cbI y b3 b5 x xy (flG e y (s.into i (ixF e x.n)) H)) S) rfl rfl (by exact Args.au) (fun w2 hw2 => toB_calls e y _ hy (by assumption) i bi (ixF e x.n) bd (GP_node hbi) (GP_id hy hbd) b3 b5 x xy H S w2 hw2) ?_
 rintro ⟨⟩ hs1
 apply OL.nil
 with_reducible apply At.in_normal
 refine At.end_ (At.fin0 rfl (fun w' hw' => ⟨_, rfl, .one hs1, hw'.thin (.any (fun k hk => by rw [show k = b5 from hk]; exact hb5) (.any (fun k hk => by rw [show k = b3 from hk]; exact hb3) .same))⟩))
theorem gnode_none (s0 : World) (e : List Ex) (y : GY) (hy : GYOk e y) (hyB : s0.heap.size ≤ y.B) (hbs : s0.heap.size ≤ y.bs) (i : Nat) (x : Ex) (xy : ExY) (hx : e[i]? = some x) (hok : ExOk s0 (low s0) x xy) (ho : x.op = 1 ∨ 14 ≤ x.op)
  (s : GS) (hs : GSOk e s) (H : List Eng.Item) (hno : ∀ k, k < s0.heap.size → NotOwned H k) (S : List World) (hs0 : s0 ∈ S) (hSS : ∀ s ∈ S, s.heap.size ≤ s0.heap.size) (w : World) (hc : Cls (flG e y s H) S w) :
  Calls Tryd.prog 20 [.pointer (some ⟨y.bs, 0, none⟩), .int .i64 (i : Int), .agg (exC x xy).toArray].toArray w fun r w' => ∃ s', r = .returned (.tuple #[]) ∧ RStep e s (eStat e.length (ixF e) i x) s' ∧ Cls (flG e y s' H) S w' := by
 have hsh := hy.ok.sh i x hx
 have hn := hy.len
 have hlen := hy.ok.len
 have hil := (List.getElem?_eq_some_iff.1 hx).1
 have hkl := hok.kl
 have hbl := hok.bl
 have hLim : ∀ k, s0.heap.size ≤ k → AllLe S k := fun k hk => AllLe.of fun s hs => Nat.le_trans (hSS s hs) hk
 obtain ⟨bi, hbi⟩ := own_exG hy hil
 have hrowi := rowG hbi
 have hes : eStat e.length (ixF e) i x = [] := by
  unfold eStat
  repeat (first | rw [if_neg (by omega)] | rfl)
 rw [hes]
 refine enter Tryd.func20 rfl Tryd.ntmps20 rfl hc ?_
 (simp only [argEnv, Nat.zero_add, Nat.reduceAdd])
 unfold flG GY.c exC
 apply W.sr
 apply OL.box; rfl; rfl; exact CellsL.one rfl; (intro bk hbk; have hbk0 := hbk.mem s0 hs0)
 apply OL.box; rfl; rfl; exact CellsL.agg; (intro bk hbk; have hbk0 := hbk.mem s0 hs0)
 apply OL.nsr
 apply old; rfl; rfl; exact .tail _ (.head _); rfl; rfl
 apply oop; rfl; apply Pev.nil_ptr; rfl; exact yes
 apply ofa; rfl; rfl; rfl
 apply old; rfl; rfl; exact .tail _ (.tail _ (.head _)); rfl; rfl
 apply omv; rfl; rfl
 apply oop; rfl; apply Pev.idxB; rfl; exact yes; rfl; exact yes; rfl; intro hcond; omega; rfl
 apply oop; rfl; apply Pev.load_row; rfl; exact yes; apply List.Mem.tail; apply List.Mem.tail; exact .tail _ (.tail _ (.head _)); rfl; assumption
 apply oas; rfl; rfl
 apply OL.nsr
 apply oop; rfl; apply Pev.makeFunc; exact Args.au; exact Args.au
 apply oas; rfl; rfl
 apply OL.nsr
 apply ofa; rfl; rfl; rfl
 apply old; rfl; rfl; exact .head _; rfl; rfl
 apply OL.nx
 apply W.block
 refine W.no ?_
 refine W.no ?_
 apply W.seq
 refine W.no ?_
 refine W.noR ?_
 with_reducible apply At.next
 refine W.cF ?_
 refine W.no ?_
 apply W.seq
 refine W.no ?_
 refine W.noR ?_
 with_reducible apply At.next
 refine W.cF ?_
 refine W.no ?_
 refine W.no ?_
 refine W.no ?_
 refine W.no ?_
 apply W.seq
 refine W.no ?_
 refine W.noR ?_
 with_reducible apply At.next
 refine W.cF ?_
 apply W.skip
 with_reducible apply At.in_normal
 revert hbk0
 revert bk
 revert hbk0
 revert bk
 intro b3 hb3 hb30 b5 hb5 hb50
 skip
 refine At.end_ (At.fin0 rfl (fun w' hw' => ⟨_, rfl, .nil hs, hw'.thin (.any (fun k hk => by rw [show k = b5 from hk]; exact hb5) (.any (fun k hk => by rw [show k = b3 from hk]; exact hb3) .same))⟩))
theorem gnode_prim_new (s0 : World) (e : List Ex) (y : GY) (hy : GYOk e y) (hyB : s0.heap.size ≤ y.B) (hbs : s0.heap.size ≤ y.bs) (i : Nat) (x : Ex) (xy : ExY) (hx : e[i]? = some x) (hok : ExOk s0 (low s0) x xy) (ho : x.op = 8)
  (hpn : x.n = 8) (s : GS) (hs : GSOk e s) (H : List Eng.Item) (hno : ∀ k, k < s0.heap.size → NotOwned H k) (S : List World) (hs0 : s0 ∈ S) (hSS : ∀ s ∈ S, s.heap.size ≤ s0.heap.size) (w : World) (hc : Cls (flG e y s H) S w) :
  Calls Tryd.prog 20 [.pointer (some ⟨y.bs, 0, none⟩), .int .i64 (i : Int), .agg (exC x xy).toArray].toArray w fun r w' => ∃ s', r = .returned (.tuple #[]) ∧ RStep e s (eStat e.length (ixF e) i x) s' ∧ Cls (flG e y s' H) S w' := by
 have hsh := hy.ok.sh i x hx
 have hn := hy.len
 have hlen := hy.ok.len
 have hil := (List.getElem?_eq_some_iff.1 hx).1
 have hkl := hok.kl
 have hbl := hok.bl
 have hLim : ∀ k, s0.heap.size ≤ k → AllLe S k := fun k hk => AllLe.of fun s hs => Nat.le_trans (hSS s hs) hk
 obtain ⟨bi, hbi⟩ := own_exG hy hil
 have hrowi := rowG hbi
 have hkk := hsh.new ho hpn
 obtain ⟨bk1, hbk1⟩ := kid_exG hy hx (k := 1) (by omega)
 have hes : eStat e.length (ixF e) i x = [(e.length, kidN x 1)] := by
  unfold eStat
  simp [ho, hpn]
 rw [hes]
 refine enter Tryd.func20 rfl Tryd.ntmps20 rfl hc ?_
 (simp only [argEnv, Nat.zero_add, Nat.reduceAdd])
 unfold flG GY.c exC
 apply W.sr
 apply OL.box; rfl; rfl; exact CellsL.one rfl; (intro bk hbk; have hbk0 := hbk.mem s0 hs0)
 apply OL.box; rfl; rfl; exact CellsL.agg; (intro bk hbk; have hbk0 := hbk.mem s0 hs0)
 apply OL.nsr
 apply old; rfl; rfl; exact .tail _ (.head _); rfl; rfl
 apply oop; rfl; apply Pev.nil_ptr; rfl; exact yes
 apply ofa; rfl; rfl; rfl
 apply old; rfl; rfl; exact .tail _ (.tail _ (.head _)); rfl; rfl
 apply omv; rfl; rfl
 apply oop; rfl; apply Pev.idxB; rfl; exact yes; rfl; exact yes; rfl; intro hcond; omega; rfl
 apply oop; rfl; apply Pev.load_row; rfl; exact yes; apply List.Mem.tail; apply List.Mem.tail; exact .tail _ (.tail _ (.head _)); rfl; assumption
 apply oas; rfl; rfl
 apply OL.nsr
 apply oop; rfl; apply Pev.makeFunc; exact Args.au; exact Args.au
 apply oas; rfl; rfl
 apply OL.nsr
 apply ofa; rfl; rfl; rfl
 apply old; rfl; rfl; exact .head _; rfl; rfl
 apply OL.nx
 apply W.block
 refine W.no ?_
 refine W.no ?_
 apply W.seq
 refine W.no ?_
 refine W.noR ?_
 with_reducible apply At.next
 refine W.cF ?_
 refine W.no ?_
 apply W.seq
 refine W.no ?_
 refine W.noR ?_
 with_reducible apply At.next
 refine W.cF ?_
 refine W.no ?_
 refine W.no ?_
 refine W.no ?_
 refine W.yes ?_
 apply W.sr
 apply ofa; rfl; rfl; rfl
 apply old; rfl; rfl; exact .head _; rfl; rfl
 apply OL.nx
 apply W.block
 refine W.yes ?_
 revert hbk0
 revert bk
 revert hbk0
 revert bk
 intro b3 hb3 hb30 b5 hb5 hb50
 refine W.regn 7 (by (repeat (first | exact SplitN.z | apply SplitN.s))) (by kernel_rfl) (by decide +kernel) (fun w hw => hw.drew) ?_
 apply qld; rfl; rfl; exact .tail _ (.head _); rfl; rfl
 apply qld; rfl; rfl; exact .tail _ (.head _); rfl; rfl
 apply qop; rfl; apply Pev.nil_ptr; rfl; exact yes
 apply qfa; rfl; rfl; rfl
 apply qld; rfl; rfl; exact .tail _ (.tail _ (.head _)); rfl; rfl
 apply qmv; rfl; rfl
 (((first | (with_reducible apply OL.op) | (with_reducible apply QL.op)); (exact Guard.au); rfl; rfl); (exact Pev.callv (first := []) (cap := [.pointer (some ⟨b3, 0, none⟩), .pointer (some ⟨b5, 0, none⟩)]) (v := slG y.N.length bk1) rfl (by (first | exact fun _ => rfl | exact fun h => h | (intro h; simp_all; done))) rfl (by exact Args.au) (fun _ w2 hw2 => kidV_calls s0 e y hy hyB hbs i x xy hx hok b3 b5 hb30 hb50 s 1 (by omega) bk1 hbk1 H hno S hs0 w2 hw2)))
 with_reducible apply QL.tail
 refine OL.callE (α := Unit) (fun _ => .tuple #[]) (fun _ => GSOk e (s.into e.length (kidN x 1))) (fun _ => Cls (cbI y b3 b5 x xy (flG e y (s.into e.length (kidN x 1)) H)) S) rfl rfl (by exact Args.au) (fun w2 hw2 => toB_calls e y _ hy (by assumption) e.length y.bh (kidN x 1) bk1 (by rw [← hn]; exact GP_heap) (GP_node hbk1) b3 b5 x xy H S w2 hw2) ?_
 rintro ⟨⟩ hs1
 apply OL.nil
 with_reducible apply At.in_normal
 with_reducible apply At.in_normal
 refine At.end_ (At.fin0 rfl (fun w' hw' => ⟨_, rfl, .one hs1, hw'.thin (.any (fun k hk => by rw [show k = b5 from hk]; exact hb5) (.any (fun k hk => by rw [show k = b3 from hk]; exact hb3) .same))⟩))
theorem gnode_prim_pset (s0 : World) (e : List Ex) (y : GY) (hy : GYOk e y) (hyB : s0.heap.size ≤ y.B) (hbs : s0.heap.size ≤ y.bs) (i : Nat) (x : Ex) (xy : ExY) (hx : e[i]? = some x) (hok : ExOk s0 (low s0) x xy) (ho : x.op = 8)
  (hpn : x.n = 11) (s : GS) (hs : GSOk e s) (H : List Eng.Item) (hno : ∀ k, k < s0.heap.size → NotOwned H k) (S : List World) (hs0 : s0 ∈ S) (hSS : ∀ s ∈ S, s.heap.size ≤ s0.heap.size) (w : World) (hc : Cls (flG e y s H) S w) :
  Calls Tryd.prog 20 [.pointer (some ⟨y.bs, 0, none⟩), .int .i64 (i : Int), .agg (exC x xy).toArray].toArray w fun r w' => ∃ s', r = .returned (.tuple #[]) ∧ RStep e s (eStat e.length (ixF e) i x) s' ∧ Cls (flG e y s' H) S w' := by
 have hsh := hy.ok.sh i x hx
 have hn := hy.len
 have hlen := hy.ok.len
 have hil := (List.getElem?_eq_some_iff.1 hx).1
 have hkl := hok.kl
 have hbl := hok.bl
 have hLim : ∀ k, s0.heap.size ≤ k → AllLe S k := fun k hk => AllLe.of fun s hs => Nat.le_trans (hSS s hs) hk
 obtain ⟨bi, hbi⟩ := own_exG hy hil
 have hrowi := rowG hbi
 have hkk := hsh.set ho hpn
 obtain ⟨bk1, hbk1⟩ := kid_exG hy hx (k := 2) (by omega)
 have hes : eStat e.length (ixF e) i x = [(e.length, kidN x 2)] := by
  unfold eStat
  simp [ho, hpn]
 rw [hes]
 refine enter Tryd.func20 rfl Tryd.ntmps20 rfl hc ?_
 (simp only [argEnv, Nat.zero_add, Nat.reduceAdd])
 unfold flG GY.c exC
 apply W.sr
 apply OL.box; rfl; rfl; exact CellsL.one rfl; (intro bk hbk; have hbk0 := hbk.mem s0 hs0)
 apply OL.box; rfl; rfl; exact CellsL.agg; (intro bk hbk; have hbk0 := hbk.mem s0 hs0)
 apply OL.nsr
 apply old; rfl; rfl; exact .tail _ (.head _); rfl; rfl
 apply oop; rfl; apply Pev.nil_ptr; rfl; exact yes
 apply ofa; rfl; rfl; rfl
 apply old; rfl; rfl; exact .tail _ (.tail _ (.head _)); rfl; rfl
 apply omv; rfl; rfl
 apply oop; rfl; apply Pev.idxB; rfl; exact yes; rfl; exact yes; rfl; intro hcond; omega; rfl
 apply oop; rfl; apply Pev.load_row; rfl; exact yes; apply List.Mem.tail; apply List.Mem.tail; exact .tail _ (.tail _ (.head _)); rfl; assumption
 apply oas; rfl; rfl
 apply OL.nsr
 apply oop; rfl; apply Pev.makeFunc; exact Args.au; exact Args.au
 apply oas; rfl; rfl
 apply OL.nsr
 apply ofa; rfl; rfl; rfl
 apply old; rfl; rfl; exact .head _; rfl; rfl
 apply OL.nx
 apply W.block
 refine W.no ?_
 refine W.no ?_
 apply W.seq
 refine W.no ?_
 refine W.noR ?_
 with_reducible apply At.next
 refine W.cF ?_
 refine W.no ?_
 apply W.seq
 refine W.no ?_
 refine W.noR ?_
 with_reducible apply At.next
 refine W.cF ?_
 refine W.no ?_
 refine W.no ?_
 refine W.no ?_
 refine W.yes ?_
 apply W.sr
 apply ofa; rfl; rfl; rfl
 apply old; rfl; rfl; exact .head _; rfl; rfl
 apply OL.nx
 apply W.block
 refine W.no ?_
 refine W.yes ?_
 revert hbk0
 revert bk
 revert hbk0
 revert bk
 intro b3 hb3 hb30 b5 hb5 hb50
 refine W.regn 7 (by (repeat (first | exact SplitN.z | apply SplitN.s))) (by kernel_rfl) (by decide +kernel) (fun w hw => hw.drew) ?_
 apply qld; rfl; rfl; exact .tail _ (.head _); rfl; rfl
 apply qld; rfl; rfl; exact .tail _ (.head _); rfl; rfl
 apply qop; rfl; apply Pev.nil_ptr; rfl; exact yes
 apply qfa; rfl; rfl; rfl
 apply qld; rfl; rfl; exact .tail _ (.tail _ (.head _)); rfl; rfl
 apply qmv; rfl; rfl
 (((first | (with_reducible apply OL.op) | (with_reducible apply QL.op)); (exact Guard.au); rfl; rfl); (exact Pev.callv (first := []) (cap := [.pointer (some ⟨b3, 0, none⟩), .pointer (some ⟨b5, 0, none⟩)]) (v := slG y.N.length bk1) rfl (by (first | exact fun _ => rfl | exact fun h => h | (intro h; simp_all; done))) rfl (by exact Args.au) (fun _ w2 hw2 => kidV_calls s0 e y hy hyB hbs i x xy hx hok b3 b5 hb30 hb50 s 2 (by omega) bk1 hbk1 H hno S hs0 w2 hw2)))
 with_reducible apply QL.tail
 refine OL.callE (α := Unit) (fun _ => .tuple #[]) (fun _ => GSOk e (s.into e.length (kidN x 2))) (fun _ => Cls (cbI y b3 b5 x xy (flG e y (s.into e.length (kidN x 2)) H)) S) rfl rfl (by exact Args.au) (fun w2 hw2 => toB_calls e y _ hy (by assumption) e.length y.bh (kidN x 2) bk1 (by rw [← hn]; exact GP_heap) (GP_node hbk1) b3 b5 x xy H S w2 hw2) ?_
 rintro ⟨⟩ hs1
 apply OL.nil
 with_reducible apply At.in_normal
 with_reducible apply At.in_normal
 refine At.end_ (At.fin0 rfl (fun w' hw' => ⟨_, rfl, .one hs1, hw'.thin (.any (fun k hk => by rw [show k = b5 from hk]; exact hb5) (.any (fun k hk => by rw [show k = b3 from hk]; exact hb3) .same))⟩))
theorem gnode_prim_get (s0 : World) (e : List Ex) (y : GY) (hy : GYOk e y) (hyB : s0.heap.size ≤ y.B) (hbs : s0.heap.size ≤ y.bs) (i : Nat) (x : Ex) (xy : ExY) (hx : e[i]? = some x) (hok : ExOk s0 (low s0) x xy) (ho : x.op = 8)
  (hpn : x.n = 10) (s : GS) (hs : GSOk e s) (H : List Eng.Item) (hno : ∀ k, k < s0.heap.size → NotOwned H k) (S : List World) (hs0 : s0 ∈ S) (hSS : ∀ s ∈ S, s.heap.size ≤ s0.heap.size) (w : World) (hc : Cls (flG e y s H) S w) :
  Calls Tryd.prog 20 [.pointer (some ⟨y.bs, 0, none⟩), .int .i64 (i : Int), .agg (exC x xy).toArray].toArray w fun r w' => ∃ s', r = .returned (.tuple #[]) ∧ RStep e s (eStat e.length (ixF e) i x) s' ∧ Cls (flG e y s' H) S w' := by
 have hsh := hy.ok.sh i x hx
 have hn := hy.len
 have hlen := hy.ok.len
 have hil := (List.getElem?_eq_some_iff.1 hx).1
 have hkl := hok.kl
 have hbl := hok.bl
 have hLim : ∀ k, s0.heap.size ≤ k → AllLe S k := fun k hk => AllLe.of fun s hs => Nat.le_trans (hSS s hs) hk
 obtain ⟨bi, hbi⟩ := own_exG hy hil
 have hrowi := rowG hbi
 have hes : eStat e.length (ixF e) i x = [(i, e.length)] := by
  unfold eStat
  simp [ho, hpn]
 rw [hes]
 refine enter Tryd.func20 rfl Tryd.ntmps20 rfl hc ?_
 (simp only [argEnv, Nat.zero_add, Nat.reduceAdd])
 unfold flG GY.c exC
 apply W.sr
 apply OL.box; rfl; rfl; exact CellsL.one rfl; (intro bk hbk; have hbk0 := hbk.mem s0 hs0)
 apply OL.box; rfl; rfl; exact CellsL.agg; (intro bk hbk; have hbk0 := hbk.mem s0 hs0)
 apply OL.nsr
 apply old; rfl; rfl; exact .tail _ (.head _); rfl; rfl
 apply oop; rfl; apply Pev.nil_ptr; rfl; exact yes
 apply ofa; rfl; rfl; rfl
 apply old; rfl; rfl; exact .tail _ (.tail _ (.head _)); rfl; rfl
 apply omv; rfl; rfl
 apply oop; rfl; apply Pev.idxB; rfl; exact yes; rfl; exact yes; rfl; intro hcond; omega; rfl
 apply oop; rfl; apply Pev.load_row; rfl; exact yes; apply List.Mem.tail; apply List.Mem.tail; exact .tail _ (.tail _ (.head _)); rfl; assumption
 apply oas; rfl; rfl
 apply OL.nsr
 apply oop; rfl; apply Pev.makeFunc; exact Args.au; exact Args.au
 apply oas; rfl; rfl
 apply OL.nsr
 apply ofa; rfl; rfl; rfl
 apply old; rfl; rfl; exact .head _; rfl; rfl
 apply OL.nx
 apply W.block
 refine W.no ?_
 refine W.no ?_
 apply W.seq
 refine W.no ?_
 refine W.noR ?_
 with_reducible apply At.next
 refine W.cF ?_
 refine W.no ?_
 apply W.seq
 refine W.no ?_
 refine W.noR ?_
 with_reducible apply At.next
 refine W.cF ?_
 refine W.no ?_
 refine W.no ?_
 refine W.no ?_
 refine W.yes ?_
 apply W.sr
 apply ofa; rfl; rfl; rfl
 apply old; rfl; rfl; exact .head _; rfl; rfl
 apply OL.nx
 apply W.block
 refine W.no ?_
 refine W.no ?_
 refine W.yes ?_
 revert hbk0
 revert bk
 revert hbk0
 revert bk
 intro b3 hb3 hb30 b5 hb5 hb50
 refine W.regn 6 (by (repeat (first | exact SplitN.z | apply SplitN.s))) (by kernel_rfl) (by decide +kernel) (fun w hw => hw.drew) ?_
 apply qld; rfl; rfl; exact .tail _ (.head _); rfl; rfl
 apply qmv; rfl; rfl
 apply qld; rfl; rfl; exact .tail _ (.head _); rfl; rfl
 apply qop; rfl; apply Pev.nil_ptr; rfl; exact yes
 apply qfa; rfl; rfl; rfl
 apply qld; rfl; rfl; exact .tail _ (.tail _ (.head _)); rfl; rfl
 with_reducible apply QL.tail
 refine OL.callE (α := Unit) (fun _ => .tuple #[]) (fun _ => GSOk e (s.into i e.length)) (fun _ => Cls (cbI y b3 b5 x xy (flG e y (s.into i e.length) H)) S) rfl rfl (by exact Args.au) (fun w2 hw2 => toB_calls e y _ hy (by assumption) i bi e.length y.bh (GP_node hbi) (by rw [← hn]; exact GP_heap) b3 b5 x xy H S w2 hw2) ?_
 rintro ⟨⟩ hs1
 apply OL.nil
 with_reducible apply At.in_normal
 with_reducible apply At.in_normal
 refine At.end_ (At.fin0 rfl (fun w' hw' => ⟨_, rfl, .one hs1, hw'.thin (.any (fun k hk => by rw [show k = b5 from hk]; exact hb5) (.any (fun k hk => by rw [show k = b3 from hk]; exact hb3) .same))⟩))
theorem gnode_prim_none (s0 : World) (e : List Ex) (y : GY) (hy : GYOk e y) (hyB : s0.heap.size ≤ y.B) (hbs : s0.heap.size ≤ y.bs) (i : Nat) (x : Ex) (xy : ExY) (hx : e[i]? = some x) (hok : ExOk s0 (low s0) x xy) (ho : x.op = 8)
  (hpn : x.n ≠ 8 ∧ x.n ≠ 11 ∧ x.n ≠ 10) (s : GS) (hs : GSOk e s) (H : List Eng.Item) (hno : ∀ k, k < s0.heap.size → NotOwned H k) (S : List World) (hs0 : s0 ∈ S) (hSS : ∀ s ∈ S, s.heap.size ≤ s0.heap.size) (w : World) (hc : Cls (flG e y s H) S w) :
  Calls Tryd.prog 20 [.pointer (some ⟨y.bs, 0, none⟩), .int .i64 (i : Int), .agg (exC x xy).toArray].toArray w fun r w' => ∃ s', r = .returned (.tuple #[]) ∧ RStep e s (eStat e.length (ixF e) i x) s' ∧ Cls (flG e y s' H) S w' := by
 have hsh := hy.ok.sh i x hx
 have hn := hy.len
 have hlen := hy.ok.len
 have hil := (List.getElem?_eq_some_iff.1 hx).1
 have hkl := hok.kl
 have hbl := hok.bl
 have hLim : ∀ k, s0.heap.size ≤ k → AllLe S k := fun k hk => AllLe.of fun s hs => Nat.le_trans (hSS s hs) hk
 obtain ⟨bi, hbi⟩ := own_exG hy hil
 have hrowi := rowG hbi
 have hes : eStat e.length (ixF e) i x = [] := by
  unfold eStat
  simp [ho, hpn]
 rw [hes]
 refine enter Tryd.func20 rfl Tryd.ntmps20 rfl hc ?_
 (simp only [argEnv, Nat.zero_add, Nat.reduceAdd])
 unfold flG GY.c exC
 apply W.sr
 apply OL.box; rfl; rfl; exact CellsL.one rfl; (intro bk hbk; have hbk0 := hbk.mem s0 hs0)
 apply OL.box; rfl; rfl; exact CellsL.agg; (intro bk hbk; have hbk0 := hbk.mem s0 hs0)
 apply OL.nsr
 apply old; rfl; rfl; exact .tail _ (.head _); rfl; rfl
 apply oop; rfl; apply Pev.nil_ptr; rfl; exact yes
 apply ofa; rfl; rfl; rfl
 apply old; rfl; rfl; exact .tail _ (.tail _ (.head _)); rfl; rfl
 apply omv; rfl; rfl
 apply oop; rfl; apply Pev.idxB; rfl; exact yes; rfl; exact yes; rfl; intro hcond; omega; rfl
 apply oop; rfl; apply Pev.load_row; rfl; exact yes; apply List.Mem.tail; apply List.Mem.tail; exact .tail _ (.tail _ (.head _)); rfl; assumption
 apply oas; rfl; rfl
 apply OL.nsr
 apply oop; rfl; apply Pev.makeFunc; exact Args.au; exact Args.au
 apply oas; rfl; rfl
 apply OL.nsr
 apply ofa; rfl; rfl; rfl
 apply old; rfl; rfl; exact .head _; rfl; rfl
 apply OL.nx
 apply W.block
 refine W.no ?_
 refine W.no ?_
 apply W.seq
 refine W.no ?_
 refine W.noR ?_
 with_reducible apply At.next
 refine W.cF ?_
 refine W.no ?_
 apply W.seq
 refine W.no ?_
 refine W.noR ?_
 with_reducible apply At.next
 refine W.cF ?_
 refine W.no ?_
 refine W.no ?_
 refine W.no ?_
 refine W.yes ?_
 apply W.sr
 apply ofa; rfl; rfl; rfl
 apply old; rfl; rfl; exact .head _; rfl; rfl
 apply OL.nx
 apply W.block
 refine W.no ?_
 refine W.no ?_
 refine W.no ?_
 apply W.skip
 with_reducible apply At.in_normal
 with_reducible apply At.in_normal
 revert hbk0
 revert bk
 revert hbk0
 revert bk
 intro b3 hb3 hb30 b5 hb5 hb50
 skip
 refine At.end_ (At.fin0 rfl (fun w' hw' => ⟨_, rfl, .nil hs, hw'.thin (.any (fun k hk => by rw [show k = b5 from hk]; exact hb5) (.any (fun k hk => by rw [show k = b3 from hk]; exact hb3) .same))⟩))
end Go.Proofs.YtkpjndhgicbjjaaDoor.co

/- The walk of the reference's Flows.node, joined. Conditions: none. -/
namespace Go.Proofs.YtkpjndhgicbjjaaDoor.co
open Go.RowKit Go.Eng Go.Co
set_option maxRecDepth 100000
theorem gnode_app (s0 : World) (es : List (Ex × ExY)) (e : List Ex) (hee : es.map Prod.fst = e) (y : GY) (hy : GYOk e y) (he : Arr exR s0 (low s0) es y.qe) (hyB : s0.heap.size ≤ y.B) (hbs : s0.heap.size ≤ y.bs) (i : Nat) (x : Ex) (xy : ExY) (hex : es[i]? = some (x, xy)) (hx : e[i]? = some x) (hok : ExOk s0 (low s0) x xy) (ho : x.op = 3)
  (s : GS) (hs : GSOk e s) (H : List Eng.Item) (hno : ∀ k, k < s0.heap.size → NotOwned H k) (S : List World) (hs0 : s0 ∈ S) (hSS : ∀ s ∈ S, s.heap.size ≤ s0.heap.size) (w : World) (hc : Cls (flG e y s H) S w) :
  Calls Tryd.prog 20 [.pointer (some ⟨y.bs, 0, none⟩), .int .i64 (i : Int), .agg (exC x xy).toArray].toArray w fun r w' => ∃ s', r = .returned (.tuple #[]) ∧ RStep e s (eApp e.length (ixF e) e s.R i x (e.length + 1)) s' ∧ Cls (flG e y s' H) S w' := by
 have hsh := hy.ok.sh i x hx
 have hn := hy.len
 have hlen := hy.ok.len
 have hil := (List.getElem?_eq_some_iff.1 hx).1
 have hkl := hok.kl
 have hbl := hok.bl
 have hLim : ∀ k, s0.heap.size ≤ k → AllLe S k := fun k hk => AllLe.of fun s hs => Nat.le_trans (hSS s hs) hk
 obtain ⟨bi, hbi⟩ := own_exG hy hil
 have hrowi := rowG hbi
 refine enter Tryd.func20 rfl Tryd.ntmps20 rfl hc ?_
 (simp only [argEnv, Nat.zero_add, Nat.reduceAdd])
 unfold flG GY.c exC
 apply W.sr
 apply OL.box; rfl; rfl; exact CellsL.one rfl; (intro bk hbk; have hbk0 := hbk.mem s0 hs0)
 apply OL.box; rfl; rfl; exact CellsL.agg; (intro bk hbk; have hbk0 := hbk.mem s0 hs0)
 apply OL.nsr
 apply old; rfl; rfl; exact .tail _ (.head _); rfl; rfl
 apply oop; rfl; apply Pev.nil_ptr; rfl; exact yes
 apply ofa; rfl; rfl; rfl
 apply old; rfl; rfl; exact .tail _ (.tail _ (.head _)); rfl; rfl
 apply omv; rfl; rfl
 apply oop; rfl; apply Pev.idxB; rfl; exact yes; rfl; exact yes; rfl; intro hcond; omega; rfl
 apply oop; rfl; apply Pev.load_row; rfl; exact yes; apply List.Mem.tail; apply List.Mem.tail; exact .tail _ (.tail _ (.head _)); rfl; assumption
 apply oas; rfl; rfl
 apply OL.nsr
 apply oop; rfl; apply Pev.makeFunc; exact Args.au; exact Args.au
 apply oas; rfl; rfl
 apply OL.nsr
 apply ofa; rfl; rfl; rfl
 apply old; rfl; rfl; exact .head _; rfl; rfl
 apply OL.nx
 apply W.block
 refine W.no ?_
 refine W.no ?_
 apply W.seq
 refine W.no ?_
 refine W.noR ?_
 with_reducible apply At.next
 refine W.cF ?_
 refine W.yes ?_
 apply W.reg
 apply old; rfl; rfl; exact .tail _ (.head _); rfl; rfl
 apply omv; rfl; rfl
 apply oop; rfl; apply Pev.load_blkA; rfl; exact yes; exact .head _; rfl; exact Take.au
 revert hbk0
 revert bk
 revert hbk0
 revert bk
 intro b3 hb3 hb30 b5 hb5 hb50
 refine OL.callE (α := GS) (vs := [.pointer (some ⟨y.bs, 0, none⟩), .int .i64 (i : Int), .agg (exC x xy).toArray]) (fun _ => .tuple #[]) (fun s' => RStep e s (eApp e.length (ixF e) e s.R i x (e.length + 1)) s') (fun s' => Cls (cbI y b3 b5 x xy (flG e y s' H)) S) rfl rfl (by exact Args.au) (fun w2 hw2 => (appG_calls s0 es e hee y hy he hyB hbs i (x, xy) hex ho s hs _ (fun k hk => NotOwned.blk (by omega) (NotOwned.blk (by omega) (hno k hk))) S hs0 hSS w2 (cbX.1 hw2)).mono (fun e1 w3 ⟨s', h1, h2, h3⟩ => ⟨s', h1, h2, cbX.2 h3⟩)) ?_
 intro s' hs'
 apply OL.nil
 with_reducible apply At.in_normal
 refine At.end_ (At.fin0 rfl (fun w' hw' => ⟨_, rfl, hs', hw'.thin (.any (fun k hk => by rw [show k = b5 from hk]; exact hb5) (.any (fun k hk => by rw [show k = b3 from hk]; exact hb3) .same))⟩))
theorem gnode_case (s0 : World) (e : List Ex) (y : GY) (hy : GYOk e y) (hyBe : y.B = s0.heap.size) (hbs : s0.heap.size ≤ y.bs) (i : Nat) (x : Ex) (xy : ExY) (hx : e[i]? = some x) (hok : ExOk s0 (low s0) x xy) (ho : x.op = 7)
  (s : GS) (hs : GSOk e s) (H : List Eng.Item) (hno : ∀ k, k < s0.heap.size → NotOwned H k) (S : List World) (hs0 : s0 ∈ S) (hSS : ∀ s ∈ S, s.heap.size ≤ s0.heap.size) (w : World) (hc : Cls (flG e y s H) S w) :
  Calls Tryd.prog 20 [.pointer (some ⟨y.bs, 0, none⟩), .int .i64 (i : Int), .agg (exC x xy).toArray].toArray w fun r w' => ∃ s', r = .returned (.tuple #[]) ∧ RStep e s (eStat e.length (ixF e) i x) s' ∧ Cls (flG e y s' H) S w' := by
 have hsh := hy.ok.sh i x hx
 have hn := hy.len
 have hyB : s0.heap.size ≤ y.B := by omega
 have hlen := hy.ok.len
 have hil := (List.getElem?_eq_some_iff.1 hx).1
 have hkl := hok.kl
 have hbl := hok.bl
 have hLim : ∀ k, s0.heap.size ≤ k → AllLe S k := fun k hk => AllLe.of fun s hs => Nat.le_trans (hSS s hs) hk
 obtain ⟨bi, hbi⟩ := own_exG hy hil
 have hrowi := rowG hbi
 refine enter Tryd.func20 rfl Tryd.ntmps20 rfl hc ?_
 (simp only [argEnv, Nat.zero_add, Nat.reduceAdd])
 unfold flG GY.c exC
 apply W.sr
 apply OL.box; rfl; rfl; exact CellsL.one rfl; (intro bk hbk; have hbk0 := hbk.mem s0 hs0)
 apply OL.box; rfl; rfl; exact CellsL.agg; (intro bk hbk; have hbk0 := hbk.mem s0 hs0)
 apply OL.nsr
 apply old; rfl; rfl; exact .tail _ (.head _); rfl; rfl
 apply oop; rfl; apply Pev.nil_ptr; rfl; exact yes
 apply ofa; rfl; rfl; rfl
 apply old; rfl; rfl; exact .tail _ (.tail _ (.head _)); rfl; rfl
 apply omv; rfl; rfl
 apply oop; rfl; apply Pev.idxB; rfl; exact yes; rfl; exact yes; rfl; intro hcond; omega; rfl
 apply oop; rfl; apply Pev.load_row; rfl; exact yes; apply List.Mem.tail; apply List.Mem.tail; exact .tail _ (.tail _ (.head _)); rfl; assumption
 apply oas; rfl; rfl
 apply OL.nsr
 apply oop; rfl; apply Pev.makeFunc; exact Args.au; exact Args.au
 apply oas; rfl; rfl
 apply OL.nsr
 apply ofa; rfl; rfl; rfl
 apply old; rfl; rfl; exact .head _; rfl; rfl
 apply OL.nx
 apply W.block
 refine W.no ?_
 refine W.no ?_
 apply W.seq
 refine W.no ?_
 refine W.noR ?_
 with_reducible apply At.next
 refine W.cF ?_
 refine W.no ?_
 apply W.seq
 refine W.no ?_
 refine W.noR ?_
 with_reducible apply At.next
 refine W.cF ?_
 refine W.no ?_
 refine W.no ?_
 refine W.no ?_
 refine W.no ?_
 apply W.seq
 refine W.yes ?_
 apply W.sk
 refine W.cT ?_
 apply W.reg
 apply old; rfl; rfl; exact .tail _ (.head _); rfl; rfl
 apply omv; rfl; rfl
 apply oop; rfl; apply Pev.load_blkA; rfl; exact yes; exact .head _; rfl; exact Take.au
 revert hbk0
 revert bk
 revert hbk0
 revert bk
 intro b3 hb3 hb30 b5 hb5 hb50
 refine OL.callE (α := GS) (vs := [.pointer (some ⟨y.bs, 0, none⟩), .int .i64 (i : Int), .agg (exC x xy).toArray]) (fun _ => .tuple #[]) (fun s' => RStep e s (eStat e.length (ixF e) i x) s') (fun s' => Cls (cbI y b3 b5 x xy (flG e y s' H)) S) rfl rfl (by exact Args.au) (fun w2 hw2 => (altsG_calls s0 e y hy hyBe hbs i x xy hx hok (.inl ho) s hs _ (fun k hk => NotOwned.blk (by omega) (NotOwned.blk (by omega) (hno k hk))) S hs0 hSS w2 (cbX.1 hw2)).mono (fun e1 w3 ⟨s', h1, h2, h3⟩ => ⟨s', h1, h2, cbX.2 h3⟩)) ?_
 intro s' hs'
 apply OL.nil
 with_reducible apply At.in_normal
 refine At.end_ (At.fin0 rfl (fun w' hw' => ⟨_, rfl, hs', hw'.thin (.any (fun k hk => by rw [show k = b5 from hk]; exact hb5) (.any (fun k hk => by rw [show k = b3 from hk]; exact hb3) .same))⟩))
theorem gnode_handle (s0 : World) (e : List Ex) (y : GY) (hy : GYOk e y) (hyBe : y.B = s0.heap.size) (hbs : s0.heap.size ≤ y.bs) (i : Nat) (x : Ex) (xy : ExY) (hx : e[i]? = some x) (hok : ExOk s0 (low s0) x xy) (ho : x.op = 13)
  (s : GS) (hs : GSOk e s) (H : List Eng.Item) (hno : ∀ k, k < s0.heap.size → NotOwned H k) (S : List World) (hs0 : s0 ∈ S) (hSS : ∀ s ∈ S, s.heap.size ≤ s0.heap.size) (w : World) (hc : Cls (flG e y s H) S w) :
  Calls Tryd.prog 20 [.pointer (some ⟨y.bs, 0, none⟩), .int .i64 (i : Int), .agg (exC x xy).toArray].toArray w fun r w' => ∃ s', r = .returned (.tuple #[]) ∧ RStep e s (eStat e.length (ixF e) i x) s' ∧ Cls (flG e y s' H) S w' := by
 have hsh := hy.ok.sh i x hx
 have hn := hy.len
 have hyB : s0.heap.size ≤ y.B := by omega
 have hlen := hy.ok.len
 have hil := (List.getElem?_eq_some_iff.1 hx).1
 have hkl := hok.kl
 have hbl := hok.bl
 have hLim : ∀ k, s0.heap.size ≤ k → AllLe S k := fun k hk => AllLe.of fun s hs => Nat.le_trans (hSS s hs) hk
 obtain ⟨bi, hbi⟩ := own_exG hy hil
 have hrowi := rowG hbi
 refine enter Tryd.func20 rfl Tryd.ntmps20 rfl hc ?_
 (simp only [argEnv, Nat.zero_add, Nat.reduceAdd])
 unfold flG GY.c exC
 apply W.sr
 apply OL.box; rfl; rfl; exact CellsL.one rfl; (intro bk hbk; have hbk0 := hbk.mem s0 hs0)
 apply OL.box; rfl; rfl; exact CellsL.agg; (intro bk hbk; have hbk0 := hbk.mem s0 hs0)
 apply OL.nsr
 apply old; rfl; rfl; exact .tail _ (.head _); rfl; rfl
 apply oop; rfl; apply Pev.nil_ptr; rfl; exact yes
 apply ofa; rfl; rfl; rfl
 apply old; rfl; rfl; exact .tail _ (.tail _ (.head _)); rfl; rfl
 apply omv; rfl; rfl
 apply oop; rfl; apply Pev.idxB; rfl; exact yes; rfl; exact yes; rfl; intro hcond; omega; rfl
 apply oop; rfl; apply Pev.load_row; rfl; exact yes; apply List.Mem.tail; apply List.Mem.tail; exact .tail _ (.tail _ (.head _)); rfl; assumption
 apply oas; rfl; rfl
 apply OL.nsr
 apply oop; rfl; apply Pev.makeFunc; exact Args.au; exact Args.au
 apply oas; rfl; rfl
 apply OL.nsr
 apply ofa; rfl; rfl; rfl
 apply old; rfl; rfl; exact .head _; rfl; rfl
 apply OL.nx
 apply W.block
 refine W.no ?_
 refine W.no ?_
 apply W.seq
 refine W.no ?_
 refine W.noR ?_
 with_reducible apply At.next
 refine W.cF ?_
 refine W.no ?_
 apply W.seq
 refine W.no ?_
 refine W.noR ?_
 with_reducible apply At.next
 refine W.cF ?_
 refine W.no ?_
 refine W.no ?_
 refine W.no ?_
 refine W.no ?_
 apply W.seq
 refine W.no ?_
 refine W.yesR ?_
 with_reducible apply At.next
 refine W.cT ?_
 apply W.reg
 apply old; rfl; rfl; exact .tail _ (.head _); rfl; rfl
 apply omv; rfl; rfl
 apply oop; rfl; apply Pev.load_blkA; rfl; exact yes; exact .head _; rfl; exact Take.au
 revert hbk0
 revert bk
 revert hbk0
 revert bk
 intro b3 hb3 hb30 b5 hb5 hb50
 refine OL.callE (α := GS) (vs := [.pointer (some ⟨y.bs, 0, none⟩), .int .i64 (i : Int), .agg (exC x xy).toArray]) (fun _ => .tuple #[]) (fun s' => RStep e s (eStat e.length (ixF e) i x) s') (fun s' => Cls (cbI y b3 b5 x xy (flG e y s' H)) S) rfl rfl (by exact Args.au) (fun w2 hw2 => (altsG_calls s0 e y hy hyBe hbs i x xy hx hok (.inr ho) s hs _ (fun k hk => NotOwned.blk (by omega) (NotOwned.blk (by omega) (hno k hk))) S hs0 hSS w2 (cbX.1 hw2)).mono (fun e1 w3 ⟨s', h1, h2, h3⟩ => ⟨s', h1, h2, cbX.2 h3⟩)) ?_
 intro s' hs'
 apply OL.nil
 with_reducible apply At.in_normal
 refine At.end_ (At.fin0 rfl (fun w' hw' => ⟨_, rfl, hs', hw'.thin (.any (fun k hk => by rw [show k = b5 from hk]; exact hb5) (.any (fun k hk => by rw [show k = b3 from hk]; exact hb3) .same))⟩))
theorem gnode_calls (s0 : World) (es : List (Ex × ExY)) (e : List Ex) (hee : es.map Prod.fst = e) (y : GY) (hy : GYOk e y) (he : Arr exR s0 (low s0) es y.qe) (hyBe : y.B = s0.heap.size) (hbs : s0.heap.size ≤ y.bs) (i : Nat) (x : Ex) (xy : ExY) (hex : es[i]? = some (x, xy)) (hx : e[i]? = some x) (hok : ExOk s0 (low s0) x xy) (ho : 0 ≤ x.op)
  (s : GS) (hs : GSOk e s) (H : List Eng.Item) (hno : ∀ k, k < s0.heap.size → NotOwned H k) (S : List World) (hs0 : s0 ∈ S) (hSS : ∀ s ∈ S, s.heap.size ≤ s0.heap.size) (w : World) (hc : Cls (flG e y s H) S w) :
  Calls Tryd.prog 20 [.pointer (some ⟨y.bs, 0, none⟩), .int .i64 (i : Int), .agg (exC x xy).toArray].toArray w fun r w' => ∃ s', r = .returned (.tuple #[]) ∧ NStep e s i s' ∧ Cls (flG e y s' H) S w' := by
 have hyB : s0.heap.size ≤ y.B := by omega
 by_cases h2 : x.op = 2
 ·exact gnode_lam s0 e y hy hyB hbs i x xy hx hok h2 s hs H hno S hs0 hSS w hc
 by_cases h3 : x.op = 3
 ·refine (gnode_app s0 es e hee y hy he hyB hbs i x xy hex hx hok h3 s hs H hno S hs0 hSS w hc).mono fun r w' ⟨s', h4, h5, h6⟩ => ⟨s', h4, NStep.of hx (by omega) ?_ h5, h6⟩
  rw [edges, if_pos h3]
 have key : ∀ (r : Ending) (w' : World), (∃ s', r = .returned (.tuple #[]) ∧ RStep e s (eStat e.length (ixF e) i x) s' ∧ Cls (flG e y s' H) S w') → ∃ s', r = .returned (.tuple #[]) ∧ NStep e s i s' ∧ Cls (flG e y s' H) S w' := fun r w' ⟨s', h4, h5, h6⟩ => ⟨s', h4, NStep.of hx h2 (by rw [edges, if_neg h3]) h5, h6⟩
 by_cases h0 : x.op = 0
 ·exact (gnode_var s0 e y hy hyB hbs i x xy hx hok h0 s hs H hno S hs0 hSS w hc).mono key
 by_cases h4 : x.op = 4
 ·exact (gnode_let s0 e y hy hyB hbs i x xy hx hok h4 s hs H hno S hs0 hSS w hc).mono key
 by_cases h5 : x.op = 5
 ·exact (gnode_rec s0 e y hy hyB hbs i x xy hx hok h5 s hs H hno S hs0 hSS w hc).mono key
 by_cases h6 : x.op = 6
 ·exact (gnode_con s0 e y hy hyB hbs i x xy hx hok h6 s hs H hno S hs0 hSS w hc).mono key
 by_cases h7 : x.op = 7
 ·exact (gnode_case s0 e y hy hyBe hbs i x xy hx hok h7 s hs H hno S hs0 hSS w hc).mono key
 by_cases h8 : x.op = 8
 ·by_cases p8 : x.n = 8
  ·exact (gnode_prim_new s0 e y hy hyB hbs i x xy hx hok h8 p8 s hs H hno S hs0 hSS w hc).mono key
  by_cases p11 : x.n = 11
  ·exact (gnode_prim_pset s0 e y hy hyB hbs i x xy hx hok h8 p11 s hs H hno S hs0 hSS w hc).mono key
  by_cases p10 : x.n = 10
  ·exact (gnode_prim_get s0 e y hy hyB hbs i x xy hx hok h8 p10 s hs H hno S hs0 hSS w hc).mono key
  ·exact (gnode_prim_none s0 e y hy hyB hbs i x xy hx hok h8 ⟨p8, p11, p10⟩ s hs H hno S hs0 hSS w hc).mono key
 by_cases h9 : x.op = 9
 ·exact (gnode_row s0 e y hy hyB hbs i x xy hx hok h9 s hs H hno S hs0 hSS w hc).mono key
 by_cases h10 : x.op = 10
 ·exact (gnode_get s0 e y hy hyB hbs i x xy hx hok h10 s hs H hno S hs0 hSS w hc).mono key
 by_cases h11 : x.op = 11
 ·exact (gnode_set s0 e y hy hyB hbs i x xy hx hok h11 s hs H hno S hs0 hSS w hc).mono key
 by_cases h12 : x.op = 12
 ·exact (gnode_perform s0 e y hy hyB hbs i x xy hx hok h12 s hs H hno S hs0 hSS w hc).mono key
 by_cases h13 : x.op = 13
 ·exact (gnode_handle s0 e y hy hyBe hbs i x xy hx hok h13 s hs H hno S hs0 hSS w hc).mono key
 exact (gnode_none s0 e y hy hyB hbs i x xy hx hok (by omega) s hs H hno S hs0 hSS w hc).mono key
end Go.Proofs.YtkpjndhgicbjjaaDoor.co

/- Plain: what the reference's FlowsOf begins with; the places of its rows. No program in sight. No condition. -/
namespace Go.Co
open Go.Eng
def rowB1 (e : List Ex) (p : Nat) : List Bool := if p = e.length + 1 then rowB0 e p else List.replicate (e.length + 1) false
def R1 (e : List Ex) : FR := (List.range (rowsN e)).map (rowB1 e)
theorem R1_dim (e : List Ex) : FDim e.length (rowsN e) (R1 e) := ⟨by simp [R1], fun r hr => by
 obtain ⟨p, _, rfl⟩ := List.mem_map.1 hr
 unfold rowB1
 split
 ·simp [rowB0]
 ·simp⟩
theorem R1_get {e : List Ex} {p : Nat} (h : p < rowsN e) : (R1 e).getD p [] = rowB1 e p := by
 unfold R1
 rw [List.getD_eq_getElem?_getD, List.getElem?_map, List.getElem?_range h]
 rfl
theorem R1_hB {e : List Ex} {p f : Nat} (h : hB (R1 e) p f = true) : p = e.length + 1 ∧ f = e.length := by
 unfold hB at h
 by_cases hp : p < rowsN e
 ·rw [R1_get hp] at h
  unfold rowB1 at h
  by_cases h1 : p = e.length + 1
  ·rw [if_pos h1, rowB0_get, h1] at h
   have h2 : e[e.length + 1]? = none := List.getElem?_eq_none (by omega)
   simp [initB, h2] at h
   exact ⟨h1, h.2⟩
  ·rw [if_neg h1, List.getD_eq_getElem?_getD, List.getElem?_replicate] at h
   split at h <;> simp at h
 ·rw [List.getD_eq_getElem?_getD (l := R1 e), List.getElem?_eq_none (by rw [(R1_dim e).len]; omega)] at h
  simp at h
theorem R1_only (e : List Ex) : (R1 e).getD (e.length + 1) [] = rowB0 e (e.length + 1) := by
 rw [R1_get (by unfold rowsN; omega)]
 unfold rowB1
 rw [if_pos rfl]
theorem R1_again (e : List Ex) : hB (R1 e) (e.length + 1) e.length = true := by
 unfold hB
 rw [R1_only, rowB0_get]
 simp [initB]
theorem R1_ok (e : List Ex) (mv : Bool) : GSOk e ⟨R1 e, mv⟩ := ⟨R1_dim e, fun p g h => .inl (R1_hB h).2, R1_only e⟩
theorem R1_least {e : List Ex} {C : FR} (ho : hB C (e.length + 1) e.length = true) : FLe (R1 e) C := fun p f h => by
 obtain ⟨rfl, rfl⟩ := R1_hB h
 exact ho
theorem R1_row {e : List Ex} {p : Nat} (h : p < rowsN e) (hp : p ≠ e.length + 1) : bools ((R1 e).getD p []) = List.replicate (e.length + 1) (.bool false) := by
 rw [R1_get h]
 unfold rowB1
 rw [if_neg hp]
 simp [bools]
def gP (n bh : Nat) (N D : List Nat) : List (Nat × Nat) := (N.zipIdx.map fun p => (p.2, p.1)) ++ (n, bh) :: (D.zipIdx.map fun p => (n + 2 + p.2, p.1))
theorem gP_pushN (n bh b : Nat) (N D : List Nat) : ((N.length, b) :: gP n bh N D).Perm (gP n bh (N ++ [b]) D) := by
 unfold gP
 rw [List.zipIdx_append, List.map_append]
 simp only [List.zipIdx_cons, List.zipIdx_nil, List.map_cons, List.map_nil, Nat.zero_add, List.append_assoc, List.singleton_append]
 exact (List.perm_middle).symm
theorem gP_pushD (n bh b : Nat) (N D : List Nat) : ((n + 2 + D.length, b) :: gP n bh N D).Perm (gP n bh N (D ++ [b])) := by
 unfold gP
 rw [List.zipIdx_append, List.map_append]
 simp only [List.zipIdx_cons, List.zipIdx_nil, List.map_cons, List.map_nil, Nat.zero_add]
 have h1 : (N.zipIdx.map fun p => (p.2, p.1)) ++ (n, bh) :: ((D.zipIdx.map fun p => (n + 2 + p.2, p.1)) ++ [(n + 2 + D.length, b)]) = ((N.zipIdx.map fun p => (p.2, p.1)) ++ (n, bh) :: (D.zipIdx.map fun p => (n + 2 + p.2, p.1))) ++ [(n + 2 + D.length, b)] := by simp
 rw [h1]
 exact (List.perm_append_comm (l₁ := [_]))
def idsB (e : List Ex) (i : Nat) : List Int := (e.take i).flatMap bindersX
theorem idsB_succ {e : List Ex} {i : Nat} {x : Ex} (hx : e[i]? = some x) : idsB e (i + 1) = idsB e i ++ bindersX x := by
 unfold idsB
 rw [List.take_add_one, hx]
 simp
theorem idsB_len {e : List Ex} {M : Nat} (h : ∀ x ∈ e, (bindersX x).length ≤ M) : ∀ i, (idsB e i).length ≤ i * M
 | 0 => by simp [idsB]
 | i + 1 => by
  have h1 := idsB_len h i
  rw [Nat.succ_mul]
  cases hx : e[i]? with
  | none =>
   have : idsB e (i + 1) = idsB e i := by
    unfold idsB
    rw [List.take_add_one, hx]
    simp
   rw [this]
   exact Nat.le_trans h1 (Nat.le_add_right _ _)
  | some x =>
   have h2 := h x (List.mem_of_getElem? hx)
   rw [idsB_succ hx, List.length_append]
   exact Nat.add_le_add h1 h2
theorem idsB_all (e : List Ex) : idsB e e.length = e.flatMap bindersX := by unfold idsB; rw [List.take_length]
theorem idsB_le {e : List Ex} {i : Nat} : (idsB e i).length ≤ (e.flatMap bindersX).length := by
 have h : e.flatMap bindersX = idsB e i ++ (e.drop i).flatMap bindersX := by
  unfold idsB
  rw [← List.flatMap_append, List.take_append_drop]
 rw [h, List.length_append]
 omega
structure PG (e : List Ex) (s : GS) (l : List Nat) (s' : GS) : Prop where
 R : s'.R = passF true e.length (ixF e) e s.R l
 mv : s'.mv = (s.mv || !decide (s'.R = s.R))
 ok : GSOk e s'
theorem PG.nil {e : List Ex} {s : GS} (h : GSOk e s) : PG e s [] s := ⟨rfl, by simp, h⟩
theorem PG.snoc {e : List Ex} {s s1 s2 : GS} {l : List Nat} {i : Nat} (h0 : GSOk e s) (h : PG e s l s1) (hn : NStep e s1 i s2) : PG e s (l ++ [i]) s2 := by
 have e2 : s2.R = passF true e.length (ixF e) e s.R (l ++ [i]) := by
  rw [hn.R, h.R]
  simp [passF]
 refine ⟨e2, ?_, hn.ok⟩
 rw [hn.mv, h.mv]
 have l1 : FLe s.R s1.R := by rw [h.R]; exact FLe.pass _ _ _ _ _ _
 have l2 : FLe s1.R s2.R := by rw [hn.R]; exact FLe.node _ _ _ _ _ _
 by_cases h1 : s2.R = s.R
 ·have h2 : s1.R = s.R := FLe.anti h.ok.dim h0.dim (by rw [h1] at l2; exact l2) l1
  simp [h1, h2]
 ·by_cases h2 : s1.R = s.R
  ·have h3 : ¬ s2.R = s1.R := by rw [h2]; exact h1
   simp [h1, h2]
  ·simp [h1, h2]
def downL (n k : Nat) : List Nat := (List.range k).map fun j => n - 1 - j
theorem downL_succ (n k : Nat) : downL n (k + 1) = downL n k ++ [n - 1 - k] := by simp [downL, List.range_succ]
theorem downL_mem {n i : Nat} (h : i < n) : i ∈ downL n n := List.mem_map.2 ⟨n - 1 - i, List.mem_range.2 (by omega), by omega⟩
end Go.Co
