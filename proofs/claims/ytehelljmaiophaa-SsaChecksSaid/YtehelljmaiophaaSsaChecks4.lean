/- Texts of the proof of SsaChecks, part 4: rules of a calculus for walking, plain laws, and walks of the functions that the law reaches. No condition. -/
import Derived.Test.YtehelljmaiophaaSsaChecks3
set_option linter.unusedVariables false
set_option linter.unusedSimpArgs false
/- The walks of ssa's operations on objects and vectors. Conditions: none. -/
namespace Go.Ss
open Go.Eng Go.RowKit
def objA (op n : Int) (p0 p1 : PV) : PV × Int :=
  if op = 11 then if (p0.k = 1 ∨ p0.k = 2) ∧ n < (p0.l.length : Int) then (p0.l.getD n.toNat zP, 0) else (zP, 5)
  else if p0.k ≠ 1 then (zP, 5)
  else if op = 10 then (pw p0.n, 0)
  else if op = 12 then (pw p0.l.length, 0)
  else if p1.k ≠ 0 then (zP, 5)
  else if p1.n < 0 ∨ (p0.l.length : Int) ≤ p1.n then (zP, 2)
  else (p0.l.getD p1.n.toNat zP, 0)
theorem PVO.arr {F : Shp} {w : World} {O : Nat → Prop} {p : PV} (h : PVO F w O p) : Arr (pvR F) w O (us p.l) p.q := by
  refine ⟨fun hl => ?_, fun x hx => ?_⟩
  · rw [List.length_map] at hl
    obtain ⟨a, h1, h2, h3⟩ := h.kids hl
    refine ⟨a, h1, h2, ?_⟩
    rw [cat_map]
    exact h3
  · obtain ⟨c, hc, rfl⟩ := List.mem_map.1 hx
    exact h.kid hc
theorem rowPV {F : Shp} {w : World} {B m cap : Nat} {O O' : Nat → Prop} {q : Option Addr} {e : TypeId} {l : List PV} {k n : Int} {c b : Nat} (h : (row B O q m cap e F.sz (cat F.cf l)).holds w) (hm : l.length = m) (hl : ∀ p ∈ l, PVO F w O' p) (h16 : l.length ≤ 16) (ho : ∀ k, B ≤ k ∧ O k → O' k) : PVO F w O' (.mk k n q c b l) := by
  simp only [PVO]
  refine ⟨h16, fun h0 => ?_⟩
  obtain ⟨a, h1, _, h3⟩ := SlAt.of_row h (by rw [cat_length (f := F.cf) F.len]; exact Nat.mul_pos h0 F.pos)
  refine ⟨a, h1, ho _ ⟨?_, h.1 a h1⟩, PVOs.of_list h3 hl⟩
  rcases h.2.2 with ⟨h4, _⟩ | ⟨g, cap', cur, h4, h5, _⟩
  · simp only [Value.slice.injEq] at h4
    rw [h4.1] at h1; cases h1
  · simp only [Value.slice.injEq] at h4
    rw [h4.1] at h1
    obtain rfl := Option.some.inj h1
    exact h5
theorem zipPV {f : PV → PV → Int} : ∀ {l m : List PV} {p : PV}, p ∈ List.zipWith (fun x y => pw (f x y)) l m → ∃ i, True ∧ p = pw i
  | [], _, _, h => by simp at h
  | _ :: _, [], _, h => by simp at h
  | a :: l, b :: m, x, h => by
    rw [List.zipWith_cons_cons] at h
    rcases List.mem_cons.1 h with rfl | h
    · exact ⟨_, trivial, rfl⟩
    · exact zipPV h
theorem getD_at {l : List PV} {i : Nat} {c : PV} (h : l[i]? = some c) : l.getD i zP = c := by rw [List.getD_eq_getElem?_getD, h]; rfl
end Go.Ss
namespace Go.Proofs.Ytehelljmaiophaa.ss
structure XVec (B : Nat) where
  b9 : Nat
  h9 : B ≤ b9
  old : Nat → Value
set_option maxRecDepth 100000
open Go.Eng Go.RowKit Go.Ss
theorem object_calls (i : Go.Ss.In) (iy : Sc) (vs : List PV) (q : Option Addr) (cap : Nat) (p0 p1 : PV) (h0 : vs[0]? = some p0) (h1 : i.op = 21 → vs[1]? = some p1) (hop : i.op = 10 ∨ i.op = 11 ∨ i.op = 12 ∨ i.op = 21) (hn : i.op = 11 → 0 ≤ i.n) (w : World) (hA : Arr (pvR pF) w (low w) (us vs) q) :
    Calls Try.prog 169 [.agg (inC i iy).toArray, .slice q vs.length cap].toArray w fun e w' => e = .returned (.tuple #[.agg (pC (objA i.op i.n p0 p1).1).toArray, .int .i64 (objA i.op i.n p0 p1).2]) ∧ Ext w w' := by
  obtain ⟨a, hqa, hab, hc0, hok0⟩ := hA.pv h0
  have hab : a.block < w.heap.size := hab
  have hc0 : CellsAt w (a.add (0 * 4)) (pC p0) := hc0
  have hlen := (List.getElem?_eq_some_iff.1 h0).1
  have hpl := hok0.len
  obtain ⟨x, hx⟩ : ∃ x, objA i.op i.n p0 p1 = x := ⟨_, rfl⟩
  rw [hx]
  unfold objA at hx
  rw [hqa]
  refine enter Try.func169 rfl Try.ntmps169 rfl (Cls.start w) ?_
  (simp only [argEnv, Nat.zero_add, Nat.reduceAdd])
  unfold inC
  apply W.sr
  apply OL.box; rfl; rfl; exact CellsL.agg; (intro bk hbk; simp only [AllLe, and_true] at hbk)
  apply OL.alloc; rfl; rfl; exact CellsL.agg; (intro bk hbk; simp only [AllLe, and_true] at hbk)
  apply oas; rfl; rfl
  apply OL.nsr
  apply omv; rfl; rfl
  apply oop; rfl; apply Pev.idx; rfl; exact yes; rfl; exact yes; rfl; rfl; intro hcond; omega
  apply oop; rfl; apply Pev.load_keptA; rfl; exact yes; exact .head _; rfl; intro hcond; assumption; rfl; intro hcond; assumption; intro hcond; exact NotOwned.au
  apply OL.alloc; rfl; rfl; exact CellsL.agg; (intro bk hbk; simp only [AllLe, and_true] at hbk)
  apply OL.storeB; rfl; rfl; exact CellsL.agg; rfl; rfl; rfl; exact Swap.au; exact Put.au
  apply OL.nx
  apply W.sb
  apply W.sr
  apply ofa; rfl; rfl; rfl
  apply old; rfl; rfl; exact .tail _ (.tail _ (.head _)); rfl; rfl
  apply obn; rfl; rfl; rfl; apply Bin.eql
  apply oas; rfl; rfl
  apply OL.nx
  rename_i b2 hb2x b4 hb4x
  revert bk
  intro b6 hb6x
  have hb2 : w.heap.size ≤ b2 := by first | exact hb2x | exact hb2x.1
  have hb4 : w.heap.size ≤ b4 := by first | exact hb4x | exact hb4x.1
  have hb6 : w.heap.size ≤ b6 := by first | exact hb6x | exact hb6x.1
  (refine W.cnd (fun s1 => ?_) (fun s1 => ?_)) <;> (try (exfalso; first | omega | exact s1 trivial | contradiction))
  · rw [if_pos s1] at hx
    have hn0 := hn s1
    apply W.seq
    apply W.sr
    apply ofa; rfl; rfl; rfl
    apply old; rfl; rfl; exact .head _; rfl; rfl
    apply obn; rfl; rfl; rfl; apply Bin.neq
    apply omv; rfl; rfl
    apply oy; rfl; rfl; rfl; apply Pev.fld; rfl; exact yes; rfl
    apply oy; rfl; rfl; rfl; apply Pev.load_blk; rfl; exact fun h => h; exact .head _; rfl; rfl
    apply oy; rfl; rfl; rfl; apply Pev.bin; rfl; exact fun h => h; rfl; exact yes; intro hcond; apply Bin.neq
    apply oop; rfl; apply Pev.pick_and; rfl; exact yes; rfl; exact fun h => h
    apply omv; rfl; rfl
    apply ono; rfl; rfl; rfl; apply Pev.fld; rfl; exact yes; rfl
    apply ono; rfl; rfl; rfl; apply Pev.load_blk; rfl; exact fun h => h; exact .tail _ (.tail _ (.head _)); rfl; rfl
    apply ono; rfl; rfl; rfl; apply Pev.fld; rfl; exact yes; rfl
    apply ono; rfl; rfl; rfl; apply Pev.load_blk; rfl; exact fun h => h; exact .head _; rfl; rfl
    apply ono; rfl; rfl; rfl; apply Pev.len_slice; rfl; exact fun h => h; rfl
    apply ono; rfl; rfl; rfl; apply Pev.bin; rfl; exact fun h => h; rfl; exact fun h => h; intro hcond; apply Bin.geq
    apply oop; rfl; apply Pev.pick_or; rfl; exact yes; rfl; exact fun h => h
    apply OL.nx
    by_cases hc : (p0.k = 1 ∨ p0.k = 2) ∧ i.n < (p0.l.length : Int)
    · refine W.cond rfl (fun h => by simp at h; omega) (fun _ => ?_)
      rw [if_pos hc] at hx
      obtain ⟨c, hcc⟩ : ∃ c, p0.l[i.n.toNat]? = some c := ⟨_, List.getElem?_eq_getElem (by omega)⟩
      rw [getD_at hcc] at hx
      obtain ⟨a2, hq2, hab2, hc2, _⟩ := hok0.arr.pv hcc
      have hab2 : a2.block < w.heap.size := hab2
      have hc2 : CellsAt w (a2.add (i.n.toNat * 4)) (pC c) := hc2
      rw [hq2]
      apply W.sk
      apply W.sr
      apply ofa; rfl; rfl; rfl
      apply old; rfl; rfl; exact .head _; rfl; rfl
      apply ofa; rfl; rfl; rfl
      apply old; rfl; rfl; exact .tail _ (.tail _ (.head _)); rfl; rfl
      apply oop; rfl; apply Pev.idxI; rfl; exact yes; rfl; exact yes; rfl; intro hcond; omega
      apply oop; rfl; apply Pev.load_keptA; rfl; exact yes; exact .head _; rfl; intro hcond; assumption; rfl; intro hcond; (rw [add_block]; assumption); intro hcond; exact NotOwned.au
      apply OL.storeB; rfl; rfl; exact CellsL.agg; rfl; rfl; rfl; exact Swap.au; exact Put.au
      apply oas; rfl; rfl
      apply OL.nx
      refine W.rt ?_
      exact At.finCT (b := b4) (cs := [.int .i64 c.k, .int .i64 c.n, .slice c.q c.l.length c.cap, .pointer (if c.k = 3 then some ⟨c.b, 0, none⟩ else none)]) rfl rfl (by exact mau) rfl rfl rfl (fun w' hw' => ⟨by rw [← hx]; rfl, hw'.toExt (by exact mau) (fun k hk => NotOwned.blk (by omega) (NotOwned.blk (by omega) (NotOwned.blk (by omega) NotOwned.nil)))⟩)
    · refine W.cond rfl (fun _ => ?_) (fun h => by simp at h; omega)
      rw [if_neg hc] at hx
      apply W.sr
      apply oop; rfl; apply Pev.build; rfl; exact CellsL.agg; rfl; exact Fill.au; rfl
      apply OL.storeB; rfl; rfl; exact CellsL.agg; rfl; rfl; rfl; exact Swap.au; exact Put.au
      apply oas; rfl; rfl
      apply OL.nx
      refine W.rt ?_
      exact At.finCT (b := b4) (cs := [.int .i64 0, .int .i64 0, .slice none 0 0, .pointer none]) rfl rfl (by exact mau) rfl rfl rfl (fun w' hw' => ⟨by rw [← hx]; rfl, hw'.toExt (by exact mau) (fun k hk => NotOwned.blk (by omega) (NotOwned.blk (by omega) (NotOwned.blk (by omega) NotOwned.nil)))⟩)
  rw [if_neg s1] at hx
  apply W.sr
  apply ofa; rfl; rfl; rfl
  apply old; rfl; rfl; exact .head _; rfl; rfl
  apply obn; rfl; rfl; rfl; apply Bin.neq
  apply oas; rfl; rfl
  apply OL.nx
  (refine W.cnd (fun s2 => ?_) (fun s2 => ?_)) <;> (try (exfalso; first | omega | exact s2 trivial | contradiction))
  · rw [if_pos s2] at hx
    apply W.sr
    apply oop; rfl; apply Pev.build; rfl; exact CellsL.agg; rfl; exact Fill.au; rfl
    apply OL.storeB; rfl; rfl; exact CellsL.agg; rfl; rfl; rfl; exact Swap.au; exact Put.au
    apply oas; rfl; rfl
    apply OL.nx
    refine W.rt ?_
    exact At.finCT (b := b4) (cs := [.int .i64 0, .int .i64 0, .slice none 0 0, .pointer none]) rfl rfl (by exact mau) rfl rfl rfl (fun w' hw' => ⟨by rw [← hx]; rfl, hw'.toExt (by exact mau) (fun k hk => NotOwned.blk (by omega) (NotOwned.blk (by omega) (NotOwned.blk (by omega) NotOwned.nil)))⟩)
  rw [if_neg (by omega)] at hx
  apply W.sr
  apply ofa; rfl; rfl; rfl
  apply old; rfl; rfl; exact .tail _ (.tail _ (.head _)); rfl; rfl
  apply obn; rfl; rfl; rfl; apply Bin.eql
  apply oas; rfl; rfl
  apply OL.nx
  (refine W.cnd (fun s3 => ?_) (fun s3 => ?_)) <;> (try (exfalso; first | omega | exact s3 trivial | contradiction))
  · rw [if_pos s3] at hx
    apply W.sr
    apply ofa; rfl; rfl; rfl
    apply old; rfl; rfl; exact .head _; rfl; rfl
    (((first | (with_reducible apply OL.op) | (with_reducible apply QL.op)); (exact Guard.au); rfl; rfl); (exact Pev.call rfl (by exact Args.au) (fun _ w2 hw2 => (wordOf_calls _ w2).mono (fun e w3 h => ⟨h.1, hw2.ext h.2⟩))))
    apply OL.storeB; rfl; rfl; exact CellsL.agg; rfl; rfl; rfl; exact Swap.au; exact Put.au
    apply oas; rfl; rfl
    apply OL.nx
    refine W.rt ?_
    exact At.finCT (b := b4) (cs := [.int .i64 0, .int .i64 p0.n, .slice none 0 0, .pointer none]) rfl rfl (by exact mau) rfl rfl rfl (fun w' hw' => ⟨by rw [← hx]; rfl, hw'.toExt (by exact mau) (fun k hk => NotOwned.blk (by omega) (NotOwned.blk (by omega) (NotOwned.blk (by omega) NotOwned.nil)))⟩)
  rw [if_neg s3] at hx
  apply W.sr
  apply ofa; rfl; rfl; rfl
  apply old; rfl; rfl; exact .tail _ (.tail _ (.head _)); rfl; rfl
  apply obn; rfl; rfl; rfl; apply Bin.eql
  apply oas; rfl; rfl
  apply OL.nx
  (refine W.cnd (fun s4 => ?_) (fun s4 => ?_)) <;> (try (exfalso; first | omega | exact s4 trivial | contradiction))
  · rw [if_pos s4] at hx
    apply W.sr
    apply ofa; rfl; rfl; rfl
    apply old; rfl; rfl; exact .head _; rfl; rfl
    apply oop; rfl; apply Pev.len_slice; rfl; exact yes; rfl
    (((first | (with_reducible apply OL.op) | (with_reducible apply QL.op)); (exact Guard.au); rfl; rfl); (exact Pev.call rfl (by exact Args.au) (fun _ w2 hw2 => (wordOf_calls _ w2).mono (fun e w3 h => ⟨h.1, hw2.ext h.2⟩))))
    apply OL.storeB; rfl; rfl; exact CellsL.agg; rfl; rfl; rfl; exact Swap.au; exact Put.au
    apply oas; rfl; rfl
    apply OL.nx
    refine W.rt ?_
    exact At.finCT (b := b4) (cs := [.int .i64 0, .int .i64 p0.l.length, .slice none 0 0, .pointer none]) rfl rfl (by exact mau) rfl rfl rfl (fun w' hw' => ⟨by rw [← hx]; rfl, hw'.toExt (by exact mau) (fun k hk => NotOwned.blk (by omega) (NotOwned.blk (by omega) (NotOwned.blk (by omega) NotOwned.nil)))⟩)
  rw [if_neg s4] at hx
  have hp1 := h1 (by omega)
  obtain ⟨a', hqa', _, hc1, hok1⟩ := hA.pv hp1
  rw [hqa] at hqa'
  obtain rfl := Option.some.inj hqa'
  have hc1 : CellsAt w (a.add (1 * 4)) (pC p1) := hc1
  have hlen1 := (List.getElem?_eq_some_iff.1 hp1).1
  have hc10 : w.cell? ⟨a.block, a.off + 1 * 4 + 0, none⟩ = some (.int .i64 p1.k) := hc1 0 _ rfl
  have hc11 : w.cell? ⟨a.block, a.off + 1 * 4 + 1, none⟩ = some (.int .i64 p1.n) := hc1 1 _ rfl
  apply W.sr
  apply omv; rfl; rfl
  apply oop; rfl; apply Pev.idx; rfl; exact yes; rfl; exact yes; rfl; rfl; intro hcond; omega
  apply ofa; rfl; rfl; rfl
  apply oop; rfl; apply Pev.load_kept; rfl; exact yes; exact .head _; rfl; intro hcond; assumption; intro hcond; assumption; intro hcond; exact NotOwned.au
  apply obn; rfl; rfl; rfl; apply Bin.neq
  apply oas; rfl; rfl
  apply OL.nx
  (refine W.cnd (fun s5 => ?_) (fun s5 => ?_)) <;> (try (exfalso; first | omega | exact s5 trivial | contradiction))
  · rw [if_pos s5] at hx
    apply W.sr
    apply oop; rfl; apply Pev.build; rfl; exact CellsL.agg; rfl; exact Fill.au; rfl
    apply OL.storeB; rfl; rfl; exact CellsL.agg; rfl; rfl; rfl; exact Swap.au; exact Put.au
    apply oas; rfl; rfl
    apply OL.nx
    refine W.rt ?_
    exact At.finCT (b := b4) (cs := [.int .i64 0, .int .i64 0, .slice none 0 0, .pointer none]) rfl rfl (by exact mau) rfl rfl rfl (fun w' hw' => ⟨by rw [← hx]; rfl, hw'.toExt (by exact mau) (fun k hk => NotOwned.blk (by omega) (NotOwned.blk (by omega) (NotOwned.blk (by omega) NotOwned.nil)))⟩)
  rw [if_neg (by omega)] at hx
  apply W.seq
  apply W.regd0; decide +kernel; kernel_rfl; decide +kernel; exact fun w hw => hw.drew
  apply qmv; rfl; rfl
  apply qop; rfl; apply Pev.idx; rfl; exact yes; rfl; exact yes; rfl; rfl; intro hcond; omega
  apply qfa; rfl; rfl; rfl
  apply qop; rfl; apply Pev.load_kept; rfl; exact yes; exact .head _; rfl; intro hcond; assumption; intro hcond; assumption; intro hcond; exact NotOwned.au
  apply qbn; rfl; rfl; rfl; apply Bin.lss
  apply qmv; rfl; rfl
  apply qno; rfl; rfl; rfl; apply Pev.move; rfl; exact yes
  apply qno; rfl; rfl; rfl; apply Pev.idx; rfl; exact fun h => h; rfl; exact yes; rfl; rfl; intro hcond; omega
  apply qno; rfl; rfl; rfl; apply Pev.fld; rfl; exact fun h => h; rfl
  apply qno; rfl; rfl; rfl; apply Pev.load_kept; rfl; exact fun h => h; exact .head _; rfl; intro hcond; assumption; intro hcond; assumption; intro hcond; exact NotOwned.au
  apply qno; rfl; rfl; rfl; apply Pev.fld; rfl; exact yes; rfl
  apply qno; rfl; rfl; rfl; apply Pev.load_blk; rfl; exact fun h => h; exact .head _; rfl; rfl
  apply qno; rfl; rfl; rfl; apply Pev.len_slice; rfl; exact fun h => h; rfl
  apply qno; rfl; rfl; rfl; apply Pev.bin; rfl; exact fun h => h; rfl; exact fun h => h; intro hcond; apply Bin.geq
  apply qop; rfl; apply Pev.pick_or; rfl; exact yes; rfl; exact fun h => h
  apply qas; rfl; rfl
  apply QL.nil
  with_reducible apply At.next
  by_cases hc : p1.n < 0 ∨ (p0.l.length : Int) ≤ p1.n
  · rw [if_pos hc] at hx
    refine W.cond rfl (fun _ => ?_) (fun h => by simp at h; omega)
    apply W.sr
    apply oop; rfl; apply Pev.build; rfl; exact CellsL.agg; rfl; exact Fill.au; rfl
    apply OL.storeB; rfl; rfl; exact CellsL.agg; rfl; rfl; rfl; exact Swap.au; exact Put.au
    apply oas; rfl; rfl
    apply OL.nx
    refine W.rt ?_
    exact At.finCT (b := b4) (cs := [.int .i64 0, .int .i64 0, .slice none 0 0, .pointer none]) rfl rfl (by exact mau) rfl rfl rfl (fun w' hw' => ⟨by rw [← hx]; rfl, hw'.toExt (by exact mau) (fun k hk => NotOwned.blk (by omega) (NotOwned.blk (by omega) (NotOwned.blk (by omega) NotOwned.nil)))⟩)
  rw [if_neg hc] at hx
  refine W.cond rfl (fun h => by simp at h; omega) (fun _ => ?_)
  obtain ⟨c, hcc⟩ : ∃ c, p0.l[p1.n.toNat]? = some c := ⟨_, List.getElem?_eq_getElem (by omega)⟩
  rw [getD_at hcc] at hx
  obtain ⟨a2, hq2, hab2, hc2, _⟩ := hok0.arr.pv hcc
  have hab2 : a2.block < w.heap.size := hab2
  have hc2 : CellsAt w (a2.add (p1.n.toNat * 4)) (pC c) := hc2
  rw [hq2]
  apply W.skip
  with_reducible apply At.in_normal
  with_reducible apply At.next
  apply W.seq
  apply W.regq; apply Split.s rfl; apply Split.s rfl; apply Split.s rfl; apply Split.s rfl; apply Split.s rfl; apply Split.s rfl; apply Split.s rfl; apply Split.s rfl; exact Split.z rfl; kernel_rfl; decide +kernel; exact fun w hw => hw.drew
  apply qfa; rfl; rfl; rfl
  apply qld; rfl; rfl; exact .head _; rfl; rfl
  apply qmv; rfl; rfl
  apply qop; rfl; apply Pev.idx; rfl; exact yes; rfl; exact yes; rfl; rfl; intro hcond; omega
  apply qfa; rfl; rfl; rfl
  apply qop; rfl; apply Pev.load_kept; rfl; exact yes; exact .head _; rfl; intro hcond; assumption; intro hcond; assumption; intro hcond; exact NotOwned.au
  apply qop; rfl; apply Pev.idxI; rfl; exact yes; rfl; exact yes; rfl; intro hcond; omega
  apply qop; rfl; apply Pev.load_keptA; rfl; exact yes; exact .head _; rfl; intro hcond; assumption; rfl; intro hcond; (rw [add_block]; assumption); intro hcond; exact NotOwned.au
  with_reducible apply QL.tail
  apply OL.storeB; rfl; rfl; exact CellsL.agg; rfl; rfl; rfl; exact Swap.au; exact Put.au
  apply oas; rfl; rfl
  apply OL.nx
  apply W.ret
  exact At.finCT (b := b4) (cs := [.int .i64 c.k, .int .i64 c.n, .slice c.q c.l.length c.cap, .pointer (if c.k = 3 then some ⟨c.b, 0, none⟩ else none)]) rfl rfl (by exact mau) rfl rfl rfl (fun w' hw' => ⟨by rw [← hx]; rfl, hw'.toExt (by exact mau) (fun k hk => NotOwned.blk (by omega) (NotOwned.blk (by omega) (NotOwned.blk (by omega) NotOwned.nil)))⟩)
def packA (q : Option Addr) (cap : Nat) (vs : List PV) : PV × Int := if (vs.all fun p => decide (p.k = 0)) then (.mk 4 0 q cap 0 vs, 0) else (zP, 5)
theorem vec_pack (i : Go.Ss.In) (iy : Sc) (hop : i.op = 22) (vs : List PV) (q : Option Addr) (cap : Nat) (hvl : vs.length ≤ 16) (w : World) (hA : Arr (pvR pF) w (low w) (us vs) q) :
    Calls Try.prog 170 [.agg (inC i iy).toArray, .slice q vs.length cap].toArray w fun e w' => e = .returned (.tuple #[.agg (pC (packA q cap vs).1).toArray, .int .i64 (packA q cap vs).2]) ∧ Ext w w' := by
  obtain ⟨x, hx⟩ : ∃ x, packA q cap vs = x := ⟨_, rfl⟩
  rw [hx]
  unfold packA at hx
  refine enter Try.func170 rfl Try.ntmps170 rfl (Cls.start w) ?_
  (simp only [argEnv, Nat.zero_add, Nat.reduceAdd])
  unfold inC
  apply W.sr
  apply OL.box; rfl; rfl; exact CellsL.agg; (intro bk hbk; simp only [AllLe, and_true] at hbk)
  apply OL.alloc; rfl; rfl; exact CellsL.agg; (intro bk hbk; simp only [AllLe, and_true] at hbk)
  apply oas; rfl; rfl
  apply OL.nx
  apply W.seq
  apply W.sr
  apply ofa; rfl; rfl; rfl
  apply old; rfl; rfl; exact .tail _ (.head _); rfl; rfl
  apply OL.nx
  apply W.block
  apply W.sr
  apply obn; rfl; rfl; rfl; apply Bin.eql
  apply oas; rfl; rfl
  apply OL.nx
  rename_i b2 hb2x
  revert bk
  intro b4 hb4x
  have hb2 : w.heap.size ≤ b2 := by first | exact hb2x | exact hb2x.1
  have hb4 : w.heap.size ≤ b4 := by first | exact hb4x | exact hb4x.1
  (refine W.cnd (fun s1 => ?_) (fun s1 => ?_)) <;> (try (exfalso; first | omega | exact s1 trivial | contradiction))
  apply W.seq
  apply W.sr
  apply omv; rfl; rfl
  (((first | (with_reducible apply OL.op) | (with_reducible apply QL.op)); (exact Guard.au); rfl; rfl); (exact Pev.call rfl (by exact Args.au) (fun _ w2 hw2 => (all_calls vs q cap 0 w2 (by omega) (hA.at hw2 (by exact mau) (fun k hk => NotOwned.blk (by omega) (NotOwned.blk (by omega) NotOwned.nil)))).mono (fun e w3 h => ⟨h.1, hw2.ext h.2⟩))))
  apply oop; rfl; apply Pev.not; rfl; exact yes
  apply OL.nx
  cases hall : (vs.all fun p => decide (p.k = 0)) with
  | true =>
    rw [hall, if_pos rfl] at hx
    refine W.cond rfl (fun h => by simp [hall] at h) (fun _ => ?_)
    apply W.sk
    apply W.sr
    apply omv; rfl; rfl
    apply oop; rfl; apply Pev.build; rfl; exact CellsL.agg; rfl; exact Fill.au; rfl
    apply OL.storeB; rfl; rfl; exact CellsL.agg; rfl; rfl; rfl; exact Swap.au; exact Put.au
    apply oas; rfl; rfl
    apply OL.nx
    refine W.rt ?_
    exact At.finCT (b := b4) (cs := [.int .i64 4, .int .i64 0, .slice q vs.length cap, .pointer none]) rfl rfl (by exact mau) rfl rfl rfl (fun w' hw' => ⟨by rw [← hx]; rfl, hw'.toExt (by exact mau) (fun k hk => NotOwned.blk (by omega) (NotOwned.blk (by omega) NotOwned.nil))⟩)
  | false =>
    rw [hall, if_neg (by decide)] at hx
    refine W.cond rfl (fun _ => ?_) (fun h => by simp [hall] at h)
    apply W.sr
    apply oop; rfl; apply Pev.build; rfl; exact CellsL.agg; rfl; exact Fill.au; rfl
    apply OL.storeB; rfl; rfl; exact CellsL.agg; rfl; rfl; rfl; exact Swap.au; exact Put.au
    apply oas; rfl; rfl
    apply OL.nx
    refine W.rt ?_
    exact At.finCT (b := b4) (cs := [.int .i64 0, .int .i64 0, .slice none 0 0, .pointer none]) rfl rfl (by exact mau) rfl rfl rfl (fun w' hw' => ⟨by rw [← hx]; rfl, hw'.toExt (by exact mau) (fun k hk => NotOwned.blk (by omega) (NotOwned.blk (by omega) NotOwned.nil))⟩)
def laneA (n : Int) (p0 : PV) : PV × Int := if p0.k ≠ 4 ∨ (p0.l.length : Int) ≤ n then (zP, 5) else (p0.l.getD n.toNat zP, 0)
theorem vec_lane (i : Go.Ss.In) (iy : Sc) (hop : i.op = 24) (hn : 0 ≤ i.n) (vs : List PV) (q : Option Addr) (cap : Nat) (p0 : PV) (h0 : vs[0]? = some p0) (w : World) (hA : Arr (pvR pF) w (low w) (us vs) q) :
    Calls Try.prog 170 [.agg (inC i iy).toArray, .slice q vs.length cap].toArray w fun e w' => e = .returned (.tuple #[.agg (pC (laneA i.n p0).1).toArray, .int .i64 (laneA i.n p0).2]) ∧ Ext w w' := by
  obtain ⟨x, hx⟩ : ∃ x, laneA i.n p0 = x := ⟨_, rfl⟩
  rw [hx]
  unfold laneA at hx
  obtain ⟨a, hqa, hab, hc0, hok0⟩ := hA.pv h0
  have hab : a.block < w.heap.size := hab
  have hc0 : CellsAt w (a.add (0 * 4)) (pC p0) := hc0
  have hlen := (List.getElem?_eq_some_iff.1 h0).1
  have hpl := hok0.len
  rw [hqa]
  refine enter Try.func170 rfl Try.ntmps170 rfl (Cls.start w) ?_
  (simp only [argEnv, Nat.zero_add, Nat.reduceAdd])
  unfold inC
  apply W.sr
  apply OL.box; rfl; rfl; exact CellsL.agg; (intro bk hbk; simp only [AllLe, and_true] at hbk)
  apply OL.alloc; rfl; rfl; exact CellsL.agg; (intro bk hbk; simp only [AllLe, and_true] at hbk)
  apply oas; rfl; rfl
  apply OL.nx
  apply W.seq
  apply W.sr
  apply ofa; rfl; rfl; rfl
  apply old; rfl; rfl; exact .tail _ (.head _); rfl; rfl
  apply OL.nx
  apply W.block
  apply W.sr
  apply obn; rfl; rfl; rfl; apply Bin.eql
  apply oas; rfl; rfl
  apply OL.nx
  rename_i b2 hb2x
  revert bk
  intro b4 hb4x
  have hb2 : w.heap.size ≤ b2 := by first | exact hb2x | exact hb2x.1
  have hb4 : w.heap.size ≤ b4 := by first | exact hb4x | exact hb4x.1
  (refine W.cnd (fun s1 => ?_) (fun s1 => ?_)) <;> (try (exfalso; first | omega | exact s1 trivial | contradiction))
  apply W.sr
  apply obn; rfl; rfl; rfl; apply Bin.eql
  apply oas; rfl; rfl
  apply OL.nx
  (refine W.cnd (fun s2 => ?_) (fun s2 => ?_)) <;> (try (exfalso; first | omega | exact s2 trivial | contradiction))
  apply W.seq
  apply W.seq
  apply W.regd0; decide +kernel; kernel_rfl; decide +kernel; exact fun w hw => hw.drew
  apply qmv; rfl; rfl
  apply qop; rfl; apply Pev.idx; rfl; exact yes; rfl; exact yes; rfl; rfl; intro hcond; omega
  apply qop; rfl; apply Pev.fldA; rfl; exact yes; rfl
  apply qop; rfl; apply Pev.load_kept; rfl; exact yes; exact .head _; rfl; intro hcond; apply CellsAt.at_ (by assumption) rfl; intro hcond; assumption; intro hcond; exact NotOwned.au
  apply qbn; rfl; rfl; rfl; apply Bin.neq
  apply qmv; rfl; rfl
  apply qno; rfl; rfl; rfl; apply Pev.fld; rfl; exact yes; rfl
  apply qno; rfl; rfl; rfl; apply Pev.load_blk; rfl; exact fun h => h; exact .tail _ (.head _); rfl; rfl
  apply qno; rfl; rfl; rfl; apply Pev.move; rfl; exact yes
  apply qno; rfl; rfl; rfl; apply Pev.idx; rfl; exact fun h => h; rfl; exact yes; rfl; rfl; intro hcond; omega
  apply qno; rfl; rfl; rfl; apply Pev.fldA; rfl; exact fun h => h; rfl
  apply qno; rfl; rfl; rfl; apply Pev.load_kept; rfl; exact fun h => h; exact .head _; rfl; intro hcond; apply CellsAt.at_ (by assumption) rfl; intro hcond; assumption; intro hcond; exact NotOwned.au
  apply qno; rfl; rfl; rfl; apply Pev.len_slice; rfl; exact fun h => h; rfl
  apply qno; rfl; rfl; rfl; apply Pev.bin; rfl; exact fun h => h; rfl; exact fun h => h; intro hcond; apply Bin.geq
  apply qop; rfl; apply Pev.pick_or; rfl; exact yes; rfl; exact fun h => h
  apply QL.nil
  with_reducible apply At.next
  by_cases hc : p0.k ≠ 4 ∨ (p0.l.length : Int) ≤ i.n
  · rw [if_pos hc] at hx
    refine W.cond rfl (fun _ => ?_) (fun h => by simp at h; omega)
    apply W.sr
    apply oop; rfl; apply Pev.build; rfl; exact CellsL.agg; rfl; exact Fill.au; rfl
    apply OL.storeB; rfl; rfl; exact CellsL.agg; rfl; rfl; rfl; exact Swap.au; exact Put.au
    apply oas; rfl; rfl
    apply OL.nx
    refine W.rt ?_
    exact At.finCT (b := b4) (cs := [.int .i64 0, .int .i64 0, .slice none 0 0, .pointer none]) rfl rfl (by exact mau) rfl rfl rfl (fun w' hw' => ⟨by rw [← hx]; rfl, hw'.toExt (by exact mau) (fun k hk => NotOwned.blk (by omega) (NotOwned.blk (by omega) NotOwned.nil))⟩)
  rw [if_neg hc] at hx
  refine W.cond rfl (fun h => by simp at h; omega) (fun _ => ?_)
  obtain ⟨c, hcc⟩ : ∃ c, p0.l[i.n.toNat]? = some c := ⟨_, List.getElem?_eq_getElem (by omega)⟩
  rw [getD_at hcc] at hx
  obtain ⟨a2, hq2, hab2, hc2, _⟩ := hok0.arr.pv hcc
  have hab2 : a2.block < w.heap.size := hab2
  have hc2 : CellsAt w (a2.add (i.n.toNat * 4)) (pC c) := hc2
  have hc0 : CellsAt w (a.add (0 * 4)) [.int .i64 p0.k, .int .i64 p0.n, .slice p0.q p0.l.length p0.cap, .pointer (if p0.k = 3 then some ⟨p0.b, 0, none⟩ else none)] := hc0
  rw [hq2] at hc0
  rw [hq2]
  apply W.sk
  apply W.seq
  apply W.regq; apply Split.s rfl; apply Split.s rfl; apply Split.s rfl; apply Split.s rfl; apply Split.s rfl; apply Split.s rfl; apply Split.s rfl; apply Split.s rfl; exact Split.z rfl; kernel_rfl; decide +kernel; exact fun w hw => hw.drew
  apply qmv; rfl; rfl
  apply qop; rfl; apply Pev.idx; rfl; exact yes; rfl; exact yes; rfl; rfl; intro hcond; omega
  apply qop; rfl; apply Pev.fldA; rfl; exact yes; rfl
  apply qop; rfl; apply Pev.load_kept; rfl; exact yes; exact .head _; rfl; intro hcond; apply CellsAt.at_ (by assumption) rfl; intro hcond; assumption; intro hcond; exact NotOwned.au
  apply qfa; rfl; rfl; rfl
  apply qld; rfl; rfl; exact .tail _ (.head _); rfl; rfl
  apply qop; rfl; apply Pev.idxI; rfl; exact yes; rfl; exact yes; rfl; intro hcond; omega
  apply qop; rfl; apply Pev.load_keptA; rfl; exact yes; exact .head _; rfl; intro hcond; assumption; rfl; intro hcond; (rw [add_block]; assumption); intro hcond; exact NotOwned.au
  with_reducible apply QL.tail
  apply OL.storeB; rfl; rfl; exact CellsL.agg; rfl; rfl; rfl; exact Swap.au; exact Put.au
  apply oas; rfl; rfl
  apply OL.nx
  refine W.rt ?_
  exact At.finCT (b := b4) (cs := [.int .i64 c.k, .int .i64 c.n, .slice c.q c.l.length c.cap, .pointer (if c.k = 3 then some ⟨c.b, 0, none⟩ else none)]) rfl rfl (by exact mau) rfl rfl rfl (fun w' hw' => ⟨by rw [← hx]; rfl, hw'.toExt (by exact mau) (fun k hk => NotOwned.blk (by omega) (NotOwned.blk (by omega) NotOwned.nil))⟩)
theorem vec_new (i : Go.Ss.In) (iy : Sc) (hn : i.n = 1 ∨ i.n = 2 ∨ i.n = 3) (hop : i.op = 23) (vs : List PV) (q : Option Addr) (cap : Nat) (p0 p1 : PV) (hvs : vs = [p0, p1]) (w : World) (hA : Arr (pvR pF) w (low w) (us vs) q) :
    Calls Try.prog 170 [.agg (inC i iy).toArray, .slice q vs.length cap].toArray w fun e w' => Ext w w' ∧ (((p0.k ≠ 4 ∨ p1.k ≠ 4 ∨ p0.l.length ≠ p1.l.length) ∧ e = .returned (.tuple #[.agg (pC zP).toArray, .int .i64 5])) ∨
      (¬ (p0.k ≠ 4 ∨ p1.k ≠ 4 ∨ p0.l.length ≠ p1.l.length) ∧ ∃ v : PV, v.k = 4 ∧ v.n = 0 ∧ v.l = List.zipWith (fun x y => pw (binV i.n x.n y.n)) p0.l p1.l ∧ e = .returned (.tuple #[.agg (pC v).toArray, .int .i64 0]) ∧ PVO pF w' (fresh w w') v)) := by
  subst hvs
  obtain ⟨a, hqa, hab, hc0, hok0⟩ := hA.pv (i := 0) (p := p0) rfl
  obtain ⟨a', hqa', _, hc1, hok1⟩ := hA.pv (i := 1) (p := p1) rfl
  rw [hqa] at hqa'
  obtain rfl := Option.some.inj hqa'
  have hab : a.block < w.heap.size := hab
  have hc0 : CellsAt w (a.add (0 * 4)) (pC p0) := hc0
  have hc1 : CellsAt w (a.add (1 * 4)) (pC p1) := hc1
  have hc12 : w.cell? ⟨a.block, a.off + 1 * 4 + 2, none⟩ = some (.slice p1.q p1.l.length p1.cap) := hc1 2 _ rfl
  have hpl := hok0.len
  refine enter Try.func170 rfl Try.ntmps170 rfl (Cls.start w) ?_
  (simp only [argEnv, Nat.zero_add, Nat.reduceAdd])
  unfold inC
  apply W.sr
  apply OL.box; rfl; rfl; exact CellsL.agg; (intro bk hbk; simp only [AllLe, and_true] at hbk)
  apply OL.alloc; rfl; rfl; exact CellsL.agg; (intro bk hbk; simp only [AllLe, and_true] at hbk)
  apply oas; rfl; rfl
  apply OL.nx
  apply W.seq
  apply W.sr
  apply ofa; rfl; rfl; rfl
  apply old; rfl; rfl; exact .tail _ (.head _); rfl; rfl
  apply OL.nx
  apply W.block
  apply W.sr
  apply obn; rfl; rfl; rfl; apply Bin.eql
  apply oas; rfl; rfl
  apply OL.nx
  rename_i b2 hb2x
  revert bk
  intro b4 hb4x
  have hb2 : w.heap.size ≤ b2 := by first | exact hb2x | exact hb2x.1
  have hb4 : w.heap.size ≤ b4 := by first | exact hb4x | exact hb4x.1
  (refine W.cnd (fun s1 => ?_) (fun s1 => ?_)) <;> (try (exfalso; first | omega | exact s1 trivial | contradiction))
  apply W.sr
  apply obn; rfl; rfl; rfl; apply Bin.eql
  apply oas; rfl; rfl
  apply OL.nx
  (refine W.cnd (fun s2 => ?_) (fun s2 => ?_)) <;> (try (exfalso; first | omega | exact s2 trivial | contradiction))
  apply W.skip
  with_reducible apply At.in_normal
  with_reducible apply At.next
  apply W.seq
  apply W.seq
  apply W.regd0; decide +kernel; kernel_rfl; decide +kernel; exact fun w hw => hw.drew
  apply qmv; rfl; rfl
  (((first | (with_reducible apply OL.op) | (with_reducible apply QL.op)); (exact Guard.au); rfl; rfl); (exact Pev.call (v := .bool (decide (p0.k = 4) && decide (p1.k = 4))) rfl (by exact Args.au) (fun _ w2 hw2 => (all_calls [p0, p1] q cap 4 w2 (by simp) (hA.at hw2 (by exact mau) (fun k hk => NotOwned.blk (by omega) (NotOwned.blk (by omega) NotOwned.nil)))).mono (fun e w3 h => ⟨by rw [h.1]; simp, hw2.ext h.2⟩))))
  simp only [List.length_cons, List.length_nil, Nat.zero_add, Nat.reduceAdd]
  rw [hqa]
  apply qop; rfl; apply Pev.not; rfl; exact yes
  apply qmv; rfl; rfl
  apply qno; rfl; rfl; rfl; apply Pev.move; rfl; exact yes
  apply qno; rfl; rfl; rfl; apply Pev.idx; rfl; exact fun h => h; rfl; exact yes; rfl; rfl; intro hcond; (simp only [Bool.and_eq_true, Bool.or_eq_true, Bool.not_eq_true', decide_eq_true_eq, decide_eq_false_iff_not] at *; omega)
  apply qno; rfl; rfl; rfl; apply Pev.fldA; rfl; exact fun h => h; rfl
  apply qno; rfl; rfl; rfl; apply Pev.load_kept; rfl; exact fun h => h; exact .head _; rfl; intro hcond; apply CellsAt.at_ (by assumption) rfl; intro hcond; assumption; intro hcond; exact NotOwned.au
  apply qno; rfl; rfl; rfl; apply Pev.len_slice; rfl; exact fun h => h; rfl
  apply qno; rfl; rfl; rfl; apply Pev.move; rfl; exact yes
  apply qno; rfl; rfl; rfl; apply Pev.idx; rfl; exact fun h => h; rfl; exact yes; rfl; rfl; intro hcond; (simp only [Bool.and_eq_true, Bool.or_eq_true, Bool.not_eq_true', decide_eq_true_eq, decide_eq_false_iff_not] at *; omega)
  apply qno; rfl; rfl; rfl; apply Pev.fld; rfl; exact fun h => h; rfl
  apply qno; rfl; rfl; rfl; apply Pev.load_kept; rfl; exact fun h => h; exact .head _; rfl; intro hcond; assumption; intro hcond; assumption; intro hcond; exact NotOwned.au
  apply qno; rfl; rfl; rfl; apply Pev.len_slice; rfl; exact fun h => h; rfl
  apply qno; rfl; rfl; rfl; apply Pev.bin; rfl; exact fun h => h; rfl; exact fun h => h; intro hcond; apply Bin.neq
  apply qop; rfl; apply Pev.pick_or; rfl; exact yes; rfl; exact fun h => h
  apply QL.nil
  with_reducible apply At.next
  by_cases hc : p0.k ≠ 4 ∨ p1.k ≠ 4 ∨ p0.l.length ≠ p1.l.length
  · refine W.cond rfl (fun _ => ?_) (fun h => by simp at h; omega)
    apply W.sr
    apply oop; rfl; apply Pev.build; rfl; exact CellsL.agg; rfl; exact Fill.au; rfl
    apply OL.storeB; rfl; rfl; exact CellsL.agg; rfl; rfl; rfl; exact Swap.au; exact Put.au
    apply oas; rfl; rfl
    apply OL.nx
    refine W.rt ?_
    exact At.finCT (b := b4) (cs := [.int .i64 0, .int .i64 0, .slice none 0 0, .pointer none]) rfl rfl (by exact mau) rfl rfl rfl (fun w' hw' => ⟨hw'.toExt (by exact mau) (fun k hk => NotOwned.blk (by omega) (NotOwned.blk (by omega) NotOwned.nil)), .inl ⟨hc, rfl⟩⟩)
  refine W.cond rfl (fun h => by simp at h; omega) (fun _ => ?_)
  have hll : p0.l.length = p1.l.length := by omega
  obtain ⟨Z, hZ⟩ : ∃ Z, List.zipWith (fun x y => pw (binV i.n x.n y.n)) p0.l p1.l = Z := ⟨_, rfl⟩
  have hZl : Z.length = p0.l.length := by rw [← hZ, List.length_zipWith]; omega
  apply W.sk
  apply W.sr
  apply oop; rfl; apply Pev.build; rfl; exact CellsL.agg; rfl; exact Fill.au; rfl
  apply OL.alloc; rfl; rfl; exact CellsL.agg; (intro bk hbk; simp only [AllLe, and_true] at hbk)
  apply OL.storeB; rfl; rfl; exact CellsL.agg; rfl; rfl; rfl; exact Swap.au; exact Put.au
  apply OL.nx
  apply W.seq
  apply W.sr
  apply omv; rfl; rfl
  apply oop; rfl; apply Pev.idx; rfl; exact yes; rfl; exact yes; rfl; rfl; intro hcond; (simp only [Bool.and_eq_true, Bool.or_eq_true, Bool.not_eq_true', decide_eq_true_eq, decide_eq_false_iff_not] at *; omega)
  apply oop; rfl; apply Pev.fldA; rfl; exact yes; rfl
  apply oop; rfl; apply Pev.load_kept; rfl; exact yes; exact .head _; rfl; intro hcond; apply CellsAt.at_ (by assumption) rfl; intro hcond; assumption; intro hcond; exact NotOwned.au
  apply oop; rfl; apply Pev.len_slice; rfl; exact yes; rfl
  apply omv; rfl; rfl
  apply OL.nx
  apply W.block
  revert bk
  intro b6 hb6x
  have hb6 : w.heap.size ≤ b6 := by first | exact hb6x | exact hb6x.1
  skip
  refine W.loop (G := Nat × GR) (fun g => g.1 ≤ p0.l.length) (fun g => p0.l.length - g.1)
    (fun g => [(1, true, .slice (some a) 2 cap), (2, true, .pointer (some ⟨b2, 0, none⟩)), (4, true, .pointer (some ⟨b4, 0, none⟩)), (6, true, .pointer (some ⟨b6, 0, none⟩)), (68, true, .slice p0.q p0.l.length p0.cap), (69, true, .int .i64 (p0.l.length : Int)), (70, true, .int .i64 (g.1 : Int))])
    (fun g => Cls [row w.heap.size g.2.O g.2.q g.1 g.2.c 198 4 (cat pC (Z.take g.1)), blk b6 198 [.int .i64 4, .int .i64 0, .slice g.2.q g.1 g.2.c, .pointer none], blk b4 198 [.int .i64 0, .int .i64 0, .slice none 0 0, .pointer none], blk b2 85 [.int .i64 i.to_, .int .i64 i.op, .int .i64 i.n, .slice iy.1 i.args.length iy.2]] [w])
    (0, ⟨fun _ => False, none, 0⟩) (by simp) (by exact Sub.au) (fun w' hw' => hw'.row_nil w.heap.size 198 4) ?_
  rintro ⟨j, ⟨O, q', c'⟩⟩ hj
  simp only at hj ⊢
  apply W.sr
  apply obn; rfl; rfl; rfl; apply Bin.lss
  apply OL.nx
  apply W.seq
  (refine W.cnd (fun hlt => ?_) (fun hlt => ?_)) <;> (try (exfalso; first | omega | exact hlt trivial | contradiction))
  · have hjl : j < p0.l.length := by omega
    obtain ⟨u, hx⟩ : ∃ u, p0.l[j]? = some u := ⟨_, List.getElem?_eq_getElem hjl⟩
    obtain ⟨v, hy⟩ : ∃ v, p1.l[j]? = some v := ⟨_, List.getElem?_eq_getElem (by omega)⟩
    obtain ⟨a2, hq2, hab2, hc2, _⟩ := hok0.arr.pv hx
    obtain ⟨a3, hq3, hab3, hc3, _⟩ := hok1.arr.pv hy
    have hab2 : a2.block < w.heap.size := hab2
    have hab3 : a3.block < w.heap.size := hab3
    have hc2 : CellsAt w (a2.add (j * 4)) (pC u) := hc2
    have hc3 : CellsAt w (a3.add (j * 4)) (pC v) := hc3
    have hz : Z[j]? = some (pw (binV i.n u.n v.n)) := by rw [← hZ, List.getElem?_zipWith, hx, hy]
    have htk : Z.take (j + 1) = Z.take j ++ [pw (binV i.n u.n v.n)] := by rw [List.take_add_one, hz, Option.toList_some]
    rw [hq3] at hc12
    rw [hq2]
    apply W.sk
    apply W.sb
    apply W.sr
    apply omv; rfl; rfl
    apply oop; rfl; apply Pev.idx; rfl; exact yes; rfl; exact yes; rfl; rfl; intro hcond; omega
    apply oop; rfl; apply Pev.load_keptA; rfl; exact yes; exact .head _; rfl; intro hcond; assumption; rfl; intro hcond; (rw [add_block]; assumption); intro hcond; exact NotOwned.au
    apply OL.alloc; rfl; rfl; exact CellsL.agg; (intro bk hbk; simp only [AllLe, and_true] at hbk)
    apply oas; rfl; rfl
    apply OL.storeB; rfl; rfl; exact CellsL.agg; rfl; rfl; rfl; exact Swap.au; exact Put.au
    apply OL.nx
    apply W.seq
    revert bk
    intro b8 hb8x
    have hb8 : w.heap.size ≤ b8 := by first | exact hb8x | exact hb8x.1
    have hbin : binA i.n u.n v.n = (pw (binV i.n u.n v.n), 0) := by unfold binA; rw [if_neg (by omega)]
    obtain ⟨V, hV⟩ : ∃ V, binV i.n u.n v.n = V := ⟨_, rfl⟩
    rw [hV] at hbin htk
    refine W.regany (X := XVec w.heap.size) (fun x e => [(10, true, bif e 18 then .int .i64 0 else x.old 10), (9, true, bif e 16 then .pointer (some ⟨x.b9, 0, none⟩) else x.old 9), (90, true, bif e 15 then .int .i64 0 else x.old 90), (89, true, bif e 14 then .agg (pC (pw V)).toArray else x.old 89), (75, true, bif e 13 then .tuple #[.agg (pC (pw V)).toArray, .int .i64 0] else x.old 75), (88, true, bif e 12 then .tuple #[.agg (pC (pw V)).toArray, .int .i64 0] else x.old 88), (87, true, bif e 11 then .int .i64 v.n else x.old 87), (86, true, bif e 10 then .pointer (some ((a3.add (j * 4)).add 1)) else x.old 86), (85, true, bif e 9 then .pointer (some (a3.add (j * 4))) else x.old 85), (84, true, bif e 8 then .int .i64 (j : Int) else x.old 84), (83, true, bif e 7 then .slice (some a3) p1.l.length p1.cap else x.old 83), (82, true, bif e 6 then .pointer (some ⟨a.block, a.off + 1 * 4 + 2, none⟩) else x.old 82), (81, true, bif e 5 then .pointer (some (a.add (1 * 4))) else x.old 81), (80, true, bif e 4 then .slice (some a) 2 cap else x.old 80), (79, true, bif e 3 then .int .i64 u.n else x.old 79), (78, true, bif e 2 then .pointer (some ⟨b8, 0 + 1, none⟩) else x.old 78), (77, true, bif e 1 then .int .i64 i.n else x.old 77), (76, true, bif e 0 then .pointer (some ⟨b2, 0 + 2, none⟩) else x.old 76), (1, true, .slice (some a) 2 cap), (2, true, .pointer (some ⟨b2, 0, none⟩)), (4, true, .pointer (some ⟨b4, 0, none⟩)), (6, true, .pointer (some ⟨b6, 0, none⟩)), (7, true, .int .i64 (j : Int)), (8, true, .pointer (some ⟨b8, 0, none⟩)), (68, true, .slice (some a2) p0.l.length p0.cap), (69, true, .int .i64 (p0.l.length : Int)), (70, true, .int .i64 (j : Int))])
      (fun x e => (blk b8 198 [.int .i64 u.k, .int .i64 u.n, .slice u.q u.l.length u.cap, .pointer (if u.k = 3 then some ⟨u.b, 0, none⟩ else none)]) :: (row w.heap.size O q' j c' 198 4 (cat pC (Z.take j))) :: (blk b6 198 [.int .i64 4, .int .i64 0, .slice q' j c', .pointer none]) :: (blk b4 198 [.int .i64 0, .int .i64 0, .slice none 0 0, .pointer none]) :: (blk b2 85 [.int .i64 i.to_, .int .i64 i.op, .int .i64 i.n, .slice iy.1 i.args.length iy.2]) :: (bif e 16 then (bif e 17 then blk x.b9 198 [.int .i64 0, .int .i64 V, .slice none 0 0, .pointer none] else blk x.b9 198 [.int .i64 0, .int .i64 0, .slice none 0 0, .pointer none]) else nothing) :: [])
      (fun old => ⟨w.heap.size, Nat.le_refl _, old⟩) (by kernel_rfl) (by kernel_rfl) (fun w hw => hw.drew) (fun old => by repeat (first | exact SubO.nil | apply SubO.cons rfl | refine SubO.old rfl ?_)) (fun old w' hw' => hw'.add_nothing) ?_ ?_
    · intro x e i o ho hei hd hcl
      have hi : i < 19 := (List.getElem?_eq_some_iff.1 ho).1
      obtain rfl | rfl | rfl | rfl | rfl | rfl | rfl | rfl | rfl | rfl | rfl | rfl | rfl | rfl | rfl | rfl | rfl | rfl | rfl : i = 0 ∨ i = 1 ∨ i = 2 ∨ i = 3 ∨ i = 4 ∨ i = 5 ∨ i = 6 ∨ i = 7 ∨ i = 8 ∨ i = 9 ∨ i = 10 ∨ i = 11 ∨ i = 12 ∨ i = 13 ∨ i = 14 ∨ i = 15 ∨ i = 16 ∨ i = 17 ∨ i = 18 := by omega
      · cases ho
        have v0 : Eng.upd e 0 0 = true := upd_eq
        simp only [hei, cond_true, cond_false]
        have hx9 := x.h9
        apply ofa; rfl; rfl; rfl
        apply OL.nil
        exact At.beside x (by repeat (first | exact Sub.nil | apply Sub.cons rfl | refine Sub.cons_eq rfl (by simp only [v0, cond_true, cond_false]) ?_)) (fun w' hw' => by first | exact hw' | (simp only [v0, cond_true, cond_false]; exact hw'))
      · cases ho
        have h0 : e 0 = true := hd ⟨0, .data⟩ (by simp) rfl
        have v1 : Eng.upd e 1 1 = true := upd_eq
        have v0 : Eng.upd e 1 0 = true := upd_mono h0
        simp only [hei, h0, cond_true, cond_false]
        have hx9 := x.h9
        apply old; rfl; rfl; apply List.Mem.tail; apply List.Mem.tail; exact .tail _ (.tail _ (.head _)); rfl; rfl
        apply OL.nil
        exact At.beside x (by repeat (first | exact Sub.nil | apply Sub.cons rfl | refine Sub.cons_eq rfl (by simp only [v1, v0, cond_true, cond_false]) ?_)) (fun w' hw' => by first | exact hw' | (simp only [v1, v0, cond_true, cond_false]; exact hw'))
      · cases ho
        have v2 : Eng.upd e 2 2 = true := upd_eq
        simp only [hei, cond_true, cond_false]
        have hx9 := x.h9
        apply ofa; rfl; rfl; rfl
        apply OL.nil
        exact At.beside x (by repeat (first | exact Sub.nil | apply Sub.cons rfl | refine Sub.cons_eq rfl (by simp only [v2, cond_true, cond_false]) ?_)) (fun w' hw' => by first | exact hw' | (simp only [v2, cond_true, cond_false]; exact hw'))
      · cases ho
        have h2 : e 2 = true := hd ⟨2, .data⟩ (by simp) rfl
        have v3 : Eng.upd e 3 3 = true := upd_eq
        have v2 : Eng.upd e 3 2 = true := upd_mono h2
        simp only [hei, h2, cond_true, cond_false]
        have hx9 := x.h9
        apply old; rfl; rfl; exact .head _; rfl; rfl
        apply OL.nil
        exact At.beside x (by repeat (first | exact Sub.nil | apply Sub.cons rfl | refine Sub.cons_eq rfl (by simp only [v3, v2, cond_true, cond_false]) ?_)) (fun w' hw' => by first | exact hw' | (simp only [v3, v2, cond_true, cond_false]; exact hw'))
      · cases ho
        have v4 : Eng.upd e 4 4 = true := upd_eq
        simp only [hei, cond_true, cond_false]
        have hx9 := x.h9
        apply omv; rfl; rfl
        apply OL.nil
        exact At.beside x (by repeat (first | exact Sub.nil | apply Sub.cons rfl | refine Sub.cons_eq rfl (by simp only [v4, cond_true, cond_false]) ?_)) (fun w' hw' => by first | exact hw' | (simp only [v4, cond_true, cond_false]; exact hw'))
      · cases ho
        have h4 : e 4 = true := hd ⟨4, .data⟩ (by simp) rfl
        have v5 : Eng.upd e 5 5 = true := upd_eq
        have v4 : Eng.upd e 5 4 = true := upd_mono h4
        simp only [hei, h4, cond_true, cond_false]
        have hx9 := x.h9
        apply oop; rfl; apply Pev.idx; rfl; exact yes; rfl; exact yes; rfl; rfl; intro hcond; (simp only [Bool.and_eq_true, Bool.or_eq_true, Bool.not_eq_true', decide_eq_true_eq, decide_eq_false_iff_not] at *; omega)
        apply OL.nil
        exact At.beside x (by repeat (first | exact Sub.nil | apply Sub.cons rfl | refine Sub.cons_eq rfl (by simp only [v5, v4, cond_true, cond_false]) ?_)) (fun w' hw' => by first | exact hw' | (simp only [v5, v4, cond_true, cond_false]; exact hw'))
      · cases ho
        have h5 : e 5 = true := hd ⟨5, .data⟩ (by simp) rfl
        have v6 : Eng.upd e 6 6 = true := upd_eq
        have v5 : Eng.upd e 6 5 = true := upd_mono h5
        simp only [hei, h5, cond_true, cond_false]
        have hx9 := x.h9
        apply ofa; rfl; rfl; rfl
        apply OL.nil
        exact At.beside x (by repeat (first | exact Sub.nil | apply Sub.cons rfl | refine Sub.cons_eq rfl (by simp only [v6, v5, cond_true, cond_false]) ?_)) (fun w' hw' => by first | exact hw' | (simp only [v6, v5, cond_true, cond_false]; exact hw'))
      · cases ho
        have h6 : e 6 = true := hd ⟨6, .data⟩ (by simp) rfl
        have v7 : Eng.upd e 7 7 = true := upd_eq
        have v6 : Eng.upd e 7 6 = true := upd_mono h6
        simp only [hei, h6, cond_true, cond_false]
        have hx9 := x.h9
        apply oop; rfl; apply Pev.load_kept; rfl; exact yes; exact .head _; rfl; intro hcond; assumption; intro hcond; assumption; intro hcond; exact NotOwned.au
        apply OL.nil
        exact At.beside x (by repeat (first | exact Sub.nil | apply Sub.cons rfl | refine Sub.cons_eq rfl (by simp only [v7, v6, cond_true, cond_false]) ?_)) (fun w' hw' => by first | exact hw' | (simp only [v7, v6, cond_true, cond_false]; exact hw'))
      · cases ho
        have v8 : Eng.upd e 8 8 = true := upd_eq
        simp only [hei, cond_true, cond_false]
        have hx9 := x.h9
        apply omv; rfl; rfl
        apply OL.nil
        exact At.beside x (by repeat (first | exact Sub.nil | apply Sub.cons rfl | refine Sub.cons_eq rfl (by simp only [v8, cond_true, cond_false]) ?_)) (fun w' hw' => by first | exact hw' | (simp only [v8, cond_true, cond_false]; exact hw'))
      · cases ho
        have h7 : e 7 = true := hd ⟨7, .data⟩ (by simp) rfl
        have h8 : e 8 = true := hd ⟨8, .data⟩ (by simp) rfl
        have v9 : Eng.upd e 9 9 = true := upd_eq
        have v7 : Eng.upd e 9 7 = true := upd_mono h7
        have v8 : Eng.upd e 9 8 = true := upd_mono h8
        simp only [hei, h7, h8, cond_true, cond_false]
        have hx9 := x.h9
        apply oop; rfl; apply Pev.idx; rfl; exact yes; rfl; exact yes; rfl; rfl; intro hcond; omega
        apply OL.nil
        exact At.beside x (by repeat (first | exact Sub.nil | apply Sub.cons rfl | refine Sub.cons_eq rfl (by simp only [v9, v7, v8, cond_true, cond_false]) ?_)) (fun w' hw' => by first | exact hw' | (simp only [v9, v7, v8, cond_true, cond_false]; exact hw'))
      · cases ho
        have h9 : e 9 = true := hd ⟨9, .data⟩ (by simp) rfl
        have v10 : Eng.upd e 10 10 = true := upd_eq
        have v9 : Eng.upd e 10 9 = true := upd_mono h9
        simp only [hei, h9, cond_true, cond_false]
        have hx9 := x.h9
        apply oop; rfl; apply Pev.fldA; rfl; exact yes; rfl
        apply OL.nil
        exact At.beside x (by repeat (first | exact Sub.nil | apply Sub.cons rfl | refine Sub.cons_eq rfl (by simp only [v10, v9, cond_true, cond_false]) ?_)) (fun w' hw' => by first | exact hw' | (simp only [v10, v9, cond_true, cond_false]; exact hw'))
      · cases ho
        have h10 : e 10 = true := hd ⟨10, .data⟩ (by simp) rfl
        have v11 : Eng.upd e 11 11 = true := upd_eq
        have v10 : Eng.upd e 11 10 = true := upd_mono h10
        simp only [hei, h10, cond_true, cond_false]
        have hx9 := x.h9
        apply oop; rfl; apply Pev.load_kept; rfl; exact yes; exact .head _; rfl; intro hcond; apply CellsAt.at_ (by assumption) rfl; intro hcond; (simp only [add_block]; assumption); intro hcond; exact NotOwned.au
        apply OL.nil
        exact At.beside x (by repeat (first | exact Sub.nil | apply Sub.cons rfl | refine Sub.cons_eq rfl (by simp only [v11, v10, cond_true, cond_false]) ?_)) (fun w' hw' => by first | exact hw' | (simp only [v11, v10, cond_true, cond_false]; exact hw'))
      · cases ho
        have h1 : e 1 = true := hd ⟨1, .data⟩ (by simp) rfl
        have h3 : e 3 = true := hd ⟨3, .data⟩ (by simp) rfl
        have h11 : e 11 = true := hd ⟨11, .data⟩ (by simp) rfl
        have v12 : Eng.upd e 12 12 = true := upd_eq
        have v1 : Eng.upd e 12 1 = true := upd_mono h1
        have v3 : Eng.upd e 12 3 = true := upd_mono h3
        have v11 : Eng.upd e 12 11 = true := upd_mono h11
        simp only [hei, h1, h3, h11, cond_true, cond_false]
        have hx9 := x.h9
        (((first | (with_reducible apply OL.op) | (with_reducible apply QL.op)); (exact Guard.au); rfl; rfl); (exact Pev.call (v := .tuple #[.agg (pC (pw V)).toArray, .int .i64 0]) rfl (by exact Args.au) (fun _ w2 hw2 => (binary_calls i.n u.n v.n (by omega) (by omega) w2).mono (fun e w3 h => ⟨by rw [h.1, hbin], hw2.ext h.2⟩))))
        apply OL.nil
        exact At.beside x (by repeat (first | exact Sub.nil | apply Sub.cons rfl | refine Sub.cons_eq rfl (by simp only [v12, v1, v3, v11, cond_true, cond_false]) ?_)) (fun w' hw' => by first | exact hw' | (simp only [v12, v1, v3, v11, cond_true, cond_false]; exact hw'))
      · cases ho
        have h12 : e 12 = true := hd ⟨12, .data⟩ (by simp) rfl
        have v13 : Eng.upd e 13 13 = true := upd_eq
        have v12 : Eng.upd e 13 12 = true := upd_mono h12
        simp only [hei, h12, cond_true, cond_false]
        have hx9 := x.h9
        apply omv; rfl; rfl
        apply OL.nil
        exact At.beside x (by repeat (first | exact Sub.nil | apply Sub.cons rfl | refine Sub.cons_eq rfl (by simp only [v13, v12, cond_true, cond_false]) ?_)) (fun w' hw' => by first | exact hw' | (simp only [v13, v12, cond_true, cond_false]; exact hw'))
      · cases ho
        have h13 : e 13 = true := hd ⟨13, .data⟩ (by simp) rfl
        have v14 : Eng.upd e 14 14 = true := upd_eq
        have v13 : Eng.upd e 14 13 = true := upd_mono h13
        simp only [hei, h13, cond_true, cond_false]
        have hx9 := x.h9
        apply oex; rfl; rfl; rfl
        apply OL.nil
        exact At.beside x (by repeat (first | exact Sub.nil | apply Sub.cons rfl | refine Sub.cons_eq rfl (by simp only [v14, v13, cond_true, cond_false]) ?_)) (fun w' hw' => by first | exact hw' | (simp only [v14, v13, cond_true, cond_false]; exact hw'))
      · cases ho
        have h13 : e 13 = true := hd ⟨13, .data⟩ (by simp) rfl
        have v15 : Eng.upd e 15 15 = true := upd_eq
        have v13 : Eng.upd e 15 13 = true := upd_mono h13
        simp only [hei, h13, cond_true, cond_false]
        have hx9 := x.h9
        apply oex; rfl; rfl; rfl
        apply OL.nil
        exact At.beside x (by repeat (first | exact Sub.nil | apply Sub.cons rfl | refine Sub.cons_eq rfl (by simp only [v15, v13, cond_true, cond_false]) ?_)) (fun w' hw' => by first | exact hw' | (simp only [v15, v13, cond_true, cond_false]; exact hw'))
      · cases ho
        have h17 : e 17 = false := hcl.not (i := 16) (j := 17) rfl hei (by kernel_rfl)
        have v16 : Eng.upd e 16 16 = true := upd_eq
        have v17 : Eng.upd e 16 17 = false := h17
        simp only [hei, h17, cond_true, cond_false]
        have hx9 := x.h9
        apply OL.alloc; rfl; rfl; exact CellsL.agg; (intro bk hbk; simp only [AllLe, and_true] at hbk)
        apply OL.nil
        exact At.beside { x with b9 := bk, h9 := hbk } (by repeat (first | exact Sub.nil | apply Sub.cons rfl | refine Sub.cons_eq rfl (by simp only [v16, v17, cond_true, cond_false]) ?_)) (fun w' hw' => by simp only [v16, v17, cond_true, cond_false]; exact Cls.fill (p := 5) (H := _ :: _ :: _ :: _ :: _ :: _ :: []) (.s (.s (.s (.s (.s .z))))) hw')
      · cases ho
        have h14 : e 14 = true := hd ⟨14, .data⟩ (by simp) rfl
        have h16 : e 16 = true := hd ⟨16, .data⟩ (by simp) rfl
        have v17 : Eng.upd e 17 17 = true := upd_eq
        have v14 : Eng.upd e 17 14 = true := upd_mono h14
        have v16 : Eng.upd e 17 16 = true := upd_mono h16
        simp only [hei, h14, h16, cond_true, cond_false]
        have hx9 := x.h9
        apply OL.storeB; rfl; rfl; exact CellsL.agg; rfl; rfl; rfl; exact Swap.au; exact Put.au
        apply OL.nil
        exact At.beside x (by repeat (first | exact Sub.nil | apply Sub.cons rfl | refine Sub.cons_eq rfl (by simp only [v17, v14, v16, cond_true, cond_false]) ?_)) (fun w' hw' => by first | exact hw' | (simp only [v17, v14, v16, cond_true, cond_false]; exact hw'))
      · cases ho
        have h15 : e 15 = true := hd ⟨15, .data⟩ (by simp) rfl
        have h17 : e 17 = true := hd ⟨17, .chain⟩ (by simp) rfl
        have v18 : Eng.upd e 18 18 = true := upd_eq
        have v15 : Eng.upd e 18 15 = true := upd_mono h15
        have v17 : Eng.upd e 18 17 = true := upd_mono h17
        simp only [hei, h15, h17, cond_true, cond_false]
        have hx9 := x.h9
        apply oas; rfl; rfl
        apply OL.nil
        exact At.beside x (by repeat (first | exact Sub.nil | apply Sub.cons rfl | refine Sub.cons_eq rfl (by simp only [v18, v15, v17, cond_true, cond_false]) ?_)) (fun w' hw' => by first | exact hw' | (simp only [v18, v15, v17, cond_true, cond_false]; exact hw'))
    · intro x e hall
      obtain ⟨b9, hb9, old⟩ := x
      simp only [hall 0 (by decide), hall 1 (by decide), hall 2 (by decide), hall 3 (by decide), hall 4 (by decide), hall 5 (by decide), hall 6 (by decide), hall 7 (by decide), hall 8 (by decide), hall 9 (by decide), hall 10 (by decide), hall 11 (by decide), hall 12 (by decide), hall 13 (by decide), hall 14 (by decide), hall 15 (by decide), hall 16 (by decide), hall 17 (by decide), hall 18 (by decide), cond_true, cond_false]
      with_reducible apply At.next
      apply W.reg
      apply ofa; rfl; rfl; rfl
      apply oop; rfl; apply Pev.load_blk; rfl; exact yes; exact .tail _ (.tail _ (.head _)); rfl; rfl
      apply oop; rfl; apply Pev.load_blkA; rfl; exact yes; apply List.Mem.tail; apply List.Mem.tail; apply List.Mem.tail; exact .tail _ (.tail _ (.head _)); rfl; exact Take.au
      apply OL.buildSlice; rfl; rfl; rfl; exact Elems.au; rfl; rfl; (intro bk hbk; simp only [AllLe, and_true] at hbk)
      apply OL.append; rfl; rfl; rfl; rfl; exact Hole.au; exact .head _; exact Take.au; rfl; rfl; exact ⟨_, .head _, Nat.le_refl _⟩; omega; intro O1 g1 cap1
      apply ofa; rfl; rfl; rfl
      apply OL.storeB; rfl; rfl; exact CellsL.one rfl; rfl; rfl; rfl; exact Swap.au; exact Put.au
      apply OL.nil
      with_reducible apply At.in_normal
      with_reducible apply At.next
      apply W.reg
      apply obn; rfl; rfl; rfl; apply Bin.add_in; omega
      apply omv; rfl; rfl
      apply OL.nil
      have htl : (Z.take j).length = j := by rw [List.length_take]; omega
      refine At.again (j + 1, ⟨O1, some ⟨g1, 0, none⟩, cap1⟩) (by simp only; omega) (by simp only; omega) (by exact Sub.au) (fun w' hw' => ?_)
      simp only [htk, cat_append, cat_one]
      exact hw'.thin (.any (fun k hk => by rw [show k = bk from hk]; exact ⟨hbk, trivial⟩) (.any (fun k hk => by rw [show k = b8 from hk]; exact ⟨hb8, trivial⟩) (.keep (.keep (.keep (.keep (.any (fun k hk => by rw [show k = b9 from hk]; exact ⟨hb9, trivial⟩) Thin.nil)))))))
  · refine W.xt ?_
    with_reducible apply At.next
    apply W.sr
    apply oop; rfl; apply Pev.load_blkA; rfl; exact yes; exact .tail _ (.head _); rfl; exact Take.au
    apply OL.storeB; rfl; rfl; exact CellsL.agg; rfl; rfl; rfl; exact Swap.au; exact Put.au
    apply oas; rfl; rfl
    apply OL.nx
    apply W.ret
    exact At.finCT (b := b4) (cs := [.int .i64 4, .int .i64 0, .slice q' j c', .pointer none]) rfl rfl (by exact mau) rfl rfl rfl (fun w' hw' => by
      obtain rfl : j = p0.l.length := by omega
      rw [List.take_of_length_le (by omega)] at hw'
      refine ⟨hw'.toExt (by exact mau) (fun k hk => NotOwned.row (by omega) (NotOwned.blk (by omega) (NotOwned.blk (by omega) (NotOwned.blk (by omega) NotOwned.nil)))), .inr ⟨hc, .mk 4 0 q' c' 0 Z, rfl, rfl, hZ.symm, ?_, ?_⟩⟩
      · rw [← hZl]
        rfl
      · exact rowPV (hw'.item (.head _)) hZl (fun p hp => by
          rw [← hZ] at hp
          obtain ⟨i, _, rfl⟩ := zipPV hp
          exact PVO.flat) (by omega) (fun k hk => ⟨hk.1, hw'.lt _ (.head _) k hk⟩))
end Go.Proofs.Ytehelljmaiophaa.ss

/- The walks of ssa's machine: its steps and frames. Conditions: none. -/
namespace Go.Ss
open Go.Eng Go.RowKit
abbrev VM := List (Int × PV)
def mc (m : VM) : MI := m.map fun p => (p.1, .agg (pC p.2).toArray)
def pget : VM → Int → PV
  | [], _ => zP
  | p :: r, k => if p.1 = k then p.2 else pget r k
def pput : VM → Int → PV → VM
  | [], k, v => [(k, v)]
  | p :: r, k, v => if p.1 = k then (k, v) :: r else p :: pput r k v
theorem pget_pput (m : VM) (k : Int) (v : PV) (j : Int) : pget (pput m k v) j = if k = j then v else pget m j := by
  induction m with
  | nil => simp [pput, pget]
  | cons p r ih =>
    unfold pput
    by_cases h : p.1 = k
    · rw [if_pos h]
      simp only [pget, h]
      split <;> simp_all
    · rw [if_neg h]
      simp only [pget, ih]
      by_cases h2 : p.1 = j
      · rw [if_pos h2, if_pos h2, if_neg (fun e => h (h2.trans e.symm))]
      · rw [if_neg h2, if_neg h2]
theorem iget_mc : ∀ (m : VM) (k : Int), (iget (mc m) k).getD (.agg #[.int .i64 0, .int .i64 0, .slice none 0 0, .pointer none]) = .agg (pC (pget m k)).toArray
  | [], k => rfl
  | p :: r, k => by
    simp only [mc, List.map_cons, iget, pget]
    by_cases h : p.1 = k
    · rw [if_pos h, if_pos h]; rfl
    · rw [if_neg h, if_neg h]; exact iget_mc r k
theorem iput_mc : ∀ (m : VM) (k : Int) (v : PV), iput (mc m) k (.agg (pC v).toArray) = mc (pput m k v)
  | [], k, v => rfl
  | p :: r, k, v => by
    simp only [mc, List.map_cons, iput, pput]
    by_cases h : p.1 = k
    · rw [if_pos h, if_pos h]; rfl
    · rw [if_neg h, if_neg h]
      have := iput_mc r k v
      simp only [mc] at this
      rw [this]; rfl
def frC (fn bk at_ : Nat) (to_ : Int) (bm : Nat) : List Value := [.int .i64 (fn : Int), .int .i64 (bk : Int), .int .i64 (at_ : Int), .int .i64 to_, .map (some bm)]
end Go.Ss
namespace Go.Proofs.Ytehelljmaiophaa.ss
set_option maxRecDepth 100000
open Go.Eng Go.RowKit Go.Ss
theorem take_calls (bf bm fn bk at_ : Nat) (to_ : Int) (m : VM) (q : Option Addr) (cap : Nat) (l : List Int) (H : List Eng.Item) (S : List World) (s0 : World) (hs0 : s0 ∈ S) (hno : ∀ k, k < s0.heap.size → NotOwned H k) (hbf : s0.heap.size ≤ bf) (hbm : s0.heap.size ≤ bm) (hl : l.length ≤ 1000000) (hI : IntsO s0 (low s0) l q) (w : World)
    (hc : Cls (blk bf 195 (frC fn bk at_ to_ bm) :: mapI bm (mc m) :: H) S w) :
    Calls Try.prog 139 [.pointer (some ⟨bf, 0, none⟩), .slice q l.length cap].toArray w fun e w' => ∃ b, AllLe S b ∧ e = .returned (.slice (some ⟨b, 0, none⟩) l.length l.length) ∧ Cls (blk b 198 (cat pC (l.map (pget m))) :: blk bf 195 (frC fn bk at_ to_ bm) :: mapI bm (mc m) :: H) S w' := by
  unfold frC at hc ⊢
  refine enter Try.func139 rfl Try.ntmps139 rfl hc ?_
  (simp only [argEnv, Nat.zero_add, Nat.reduceAdd])
  apply W.sr
  apply oas; rfl; rfl
  apply OL.nsr
  apply omv; rfl; rfl
  apply oop; rfl; apply Pev.len_slice; rfl; exact yes; rfl
  (apply OL.makeSliceK (f := pC) (x0 := zP) (m := l.length)); rfl; rfl; rfl; rfl; rfl; rfl; rfl; rfl; (omega)
  intro bt hbt
  apply oas; rfl; rfl
  apply OL.nx
  apply W.seq
  apply W.sr
  apply omv; rfl; rfl
  apply oop; rfl; apply Pev.len_slice; rfl; exact yes; rfl
  apply omv; rfl; rfl
  apply OL.nx
  apply W.block
  refine W.loop (G := Nat) (fun i => i ≤ l.length) (fun i => l.length - i)
    (fun i => [(0, true, .pointer (some ⟨bf, 0, none⟩)), (5, true, .slice (some ⟨bt, 0, none⟩) l.length l.length), (11, true, .slice q l.length cap), (12, true, .int .i64 (l.length : Int)), (13, true, .int .i64 (i : Int))])
    (fun i => Cls (blk bt 198 (cat pC ((l.take i).map (pget m) ++ List.replicate (l.length - i) zP)) :: blk bf 195 [.int .i64 (fn : Int), .int .i64 (bk : Int), .int .i64 (at_ : Int), .int .i64 to_, .map (some bm)] :: mapI bm (mc m) :: H) S) 0 (by omega) (by exact Sub.au) (fun w' hw' => hw') ?_
  intro i hi
  have hbt0 : s0.heap.size ≤ bt := hbt.mem s0 hs0
  apply W.sr
  apply obn; rfl; rfl; rfl; apply Bin.lss
  apply OL.nx
  apply W.seq
  (refine W.cnd (fun hlt => ?_) (fun hlt => ?_)) <;> (try (exfalso; first | omega | exact hlt trivial | contradiction))
  · have hil : i < l.length := by omega
    obtain ⟨a, u, hqa, hab, hu, hcell⟩ := hI.get hil
    have hab : a.block < s0.heap.size := hab
    rw [hqa]
    apply W.sk
    apply W.sb
    apply W.sr
    apply omv; rfl; rfl
    apply oop; rfl; apply Pev.idx; rfl; exact yes; rfl; exact yes; rfl; rfl; intro hcond; omega
    apply oop; rfl; apply Pev.load_kept; rfl; exact yes; assumption; rfl; intro hcond; assumption; intro hcond; (rw [add_block]; assumption); intro hcond; exact NotOwned.au
    apply oas; rfl; rfl
    apply oas; rfl; rfl
    apply OL.nx
    apply W.reg
    apply omv; rfl; rfl
    apply omv; rfl; rfl
    apply omv; rfl; rfl
    apply oop; rfl; apply Pev.nil_ptr; rfl; exact yes
    apply ofa; rfl; rfl; rfl
    apply old; rfl; rfl; exact .tail _ (.head _); rfl; rfl
    apply omv; rfl; rfl
    (((first | (with_reducible apply OL.op) | (with_reducible apply QL.op)); (exact Guard.au); rfl; rfl); (exact Pev.ilookup rfl (by (first | exact fun _ => rfl | exact fun h => h | (intro h; simp_all; done))) rfl (by (first | exact fun _ => rfl | exact fun h => h | (intro h; simp_all; done))) rfl rfl (fun w hw => hw.item (by exact mau))))
    rw [iget_mc]
    apply oop; rfl; apply Pev.idxB; rfl; exact yes; rfl; exact yes; rfl; intro hcond; omega; rfl
    refine OL.storeL (vs := pC (pget m u)) (cs := cat pC ((l.take i).map (pget m) ++ List.replicate (l.length - i) zP)) rfl rfl rfl rfl rfl rfl ⟨?_, rfl⟩ (by exact Swap.au) ?_
    · rw [cat_length (f := pC) (sz := 4) (fun _ => rfl)]
      simp [pC]
      omega
    rw [show 0 + (i : Int).toNat * 4 = i * 4 by omega, cat_set (f := pC) (sz := 4) (fun _ => rfl) (by omega) (by simp; omega)]
    apply OL.nil
    with_reducible apply At.in_normal
    with_reducible apply At.next
    apply W.reg
    apply obn; rfl; rfl; rfl; apply Bin.add_in; omega
    apply omv; rfl; rfl
    apply OL.nil
    refine At.again (i + 1) (by omega) (by omega) (by exact Sub.au) (fun w' hw' => ?_)
    have e : ((l.take i).map (pget m) ++ List.replicate (l.length - i) zP).set i (pget m u) = (l.take (i + 1)).map (pget m) ++ List.replicate (l.length - (i + 1)) zP := by
      rw [List.take_add_one, hu, Option.toList_some, List.map_append, List.map_singleton, List.set_append_right _ _ (by simp; omega), List.length_map, List.length_take, Nat.min_eq_left (by omega), Nat.sub_self, List.append_assoc]
      congr 1
      rw [show l.length - i = (l.length - (i + 1)) + 1 by omega, List.replicate_succ]
      rfl
    rw [e] at hw'
    exact hw'
  · obtain rfl : i = l.length := by omega
    refine W.xt ?_
    with_reducible apply At.next
    apply W.sr
    apply omv; rfl; rfl
    apply oas; rfl; rfl
    apply OL.nx
    apply W.ret
    ((with_reducible apply At.fin1); rfl; rfl; intro w' hw')
    refine ⟨bt, hbt, rfl, ?_⟩
    rw [List.take_length, Nat.sub_self, List.replicate_zero, List.append_nil] at hw'
    exact hw'
end Go.Proofs.Ytehelljmaiophaa.ss

/- The walks of ssa's machine: pay, stop, choice, enter, follow, leave. Conditions: none. -/
namespace Go.Ss
open Go.Eng Go.RowKit
structure MS where
  qF : Option Addr
  nF : Nat
  cF : Nat
  main : Int
  qs : Option Addr
  ns : Nat
  cs : Nat
  left : Int
  sh : Bool
  ov : Bool
  qo : Option Addr
  no : Nat
  co : Nat
  en : Int
  va : Int
def MS.c (m : MS) : List Value := [.slice m.qF m.nF m.cF, .int .i64 m.main, .slice m.qs m.ns m.cs, .int .i64 m.left, .bool m.sh, .bool m.ov, .slice m.qo m.no m.co, .int .i64 m.en, .int .i64 m.va]
theorem idxN_bd (v : Int) : ∀ (l : List Int) (i : Nat), -1 ≤ idxN v l i
  | [], i => by simp [idxN]
  | c :: r, i => by
    rw [idxN]
    split
    · omega
    · exact idxN_bd v r (i + 1)
theorem idxI_N (v : Int) : ∀ (l : List Int) (i : Nat), (idxI v l i : Int) = if 0 ≤ idxN v l i then idxN v l i else (i + l.length : Nat)
  | [], i => by simp [idxN, idxI]
  | c :: r, i => by
    rw [idxN, idxI]
    by_cases h : v = c
    · rw [if_pos h.symm, if_pos h, if_pos (by omega)]
    · rw [if_neg (fun e => h e.symm), if_neg h, idxI_N v r (i + 1)]
      split
      · rfl
      · simp only [List.length_cons]; omega
end Go.Ss
namespace Go.Proofs.Ytehelljmaiophaa.ss
set_option maxRecDepth 100000
open Go.Eng Go.RowKit Go.Ss
theorem pay_ok (bm : Nat) (m : MS) (n : Int) (H : List Eng.Item) (S : List World) (w : World) (hn : 0 ≤ n) (hl : n ≤ m.left) (hb : m.left ≤ 1000000) (hc : Cls (blk bm 160 m.c :: H) S w) :
    Calls Try.prog 109 [.pointer (some ⟨bm, 0, none⟩), .int .i64 n].toArray w fun e w' => e = .returned (.tuple #[]) ∧ Cls (blk bm 160 { m with left := m.left - n }.c :: H) S w' := by
  unfold MS.c at hc ⊢
  refine enter Try.func109 rfl Try.ntmps109 rfl hc ?_
  (simp only [argEnv, Nat.zero_add, Nat.reduceAdd])
  apply W.seq
  apply W.sr
  apply omv; rfl; rfl
  apply omv; rfl; rfl
  apply oop; rfl; apply Pev.nil_ptr; rfl; exact yes
  apply ofa; rfl; rfl; rfl
  apply old; rfl; rfl; exact .head _; rfl; rfl
  apply obn; rfl; rfl; rfl; apply Bin.gtr
  apply OL.nx
  (refine W.cnd (fun h1 => ?_) (fun h1 => ?_)) <;> (try (exfalso; first | omega | exact h1 trivial | contradiction))
  apply W.sk
  apply W.reg
  apply omv; rfl; rfl
  apply oop; rfl; apply Pev.nil_ptr; rfl; exact yes
  apply ofa; rfl; rfl; rfl
  apply old; rfl; rfl; exact .head _; rfl; rfl
  apply omv; rfl; rfl
  apply obn; rfl; rfl; rfl; apply Bin.sub_in; omega
  apply oop; rfl; apply Pev.nil_ptr; rfl; exact yes
  apply ofa; rfl; rfl; rfl
  apply OL.storeB; rfl; rfl; exact CellsL.one rfl; rfl; rfl; rfl; exact Swap.au; exact Put.au
  apply OL.nil
  exact At.end_ (At.fin0 rfl (fun w' hw' => ⟨rfl, hw'⟩))
theorem pay_no (bm : Nat) (m : MS) (n : Int) (H : List Eng.Item) (S : List World) (w : World) (hl : m.left < n) (hc : Cls (blk bm 160 m.c :: H) S w) :
    Calls Try.prog 109 [.pointer (some ⟨bm, 0, none⟩), .int .i64 n].toArray w fun e w' => e = .returned (.tuple #[]) ∧ Cls (blk bm 160 { m with sh := true, ov := true }.c :: H) S w' := by
  unfold MS.c at hc ⊢
  refine enter Try.func109 rfl Try.ntmps109 rfl hc ?_
  (simp only [argEnv, Nat.zero_add, Nat.reduceAdd])
  apply W.seq
  apply W.sr
  apply omv; rfl; rfl
  apply omv; rfl; rfl
  apply oop; rfl; apply Pev.nil_ptr; rfl; exact yes
  apply ofa; rfl; rfl; rfl
  apply old; rfl; rfl; exact .head _; rfl; rfl
  apply obn; rfl; rfl; rfl; apply Bin.gtr
  apply OL.nx
  (refine W.cnd (fun h1 => ?_) (fun h1 => ?_)) <;> (try (exfalso; first | omega | exact h1 trivial | contradiction))
  apply W.sr
  apply omv; rfl; rfl
  apply omv; rfl; rfl
  apply oop; rfl; apply Pev.nil_ptr; rfl; exact yes
  apply ofa; rfl; rfl; rfl
  apply OL.storeB; rfl; rfl; exact CellsL.one rfl; rfl; rfl; rfl; exact Swap.au; exact Put.au
  apply oop; rfl; apply Pev.nil_ptr; rfl; exact yes
  apply ofa; rfl; rfl; rfl
  apply OL.storeB; rfl; rfl; exact CellsL.one rfl; rfl; rfl; rfl; exact Swap.au; exact Put.au
  apply OL.nx
  refine W.rt ?_
  exact At.fin0 rfl (fun w' hw' => ⟨rfl, hw'⟩)
theorem stop_calls (bm : Nat) (m : MS) (en va : Int) (H : List Eng.Item) (S : List World) (w : World) (hc : Cls (blk bm 160 m.c :: H) S w) :
    Calls Try.prog 140 [.pointer (some ⟨bm, 0, none⟩), .int .i64 en, .int .i64 va].toArray w fun e w' => e = .returned (.tuple #[]) ∧ Cls (blk bm 160 { m with ov := true, en := en, va := va }.c :: H) S w' := by
  unfold MS.c at hc ⊢
  refine enter Try.func140 rfl Try.ntmps140 rfl hc ?_
  (simp only [argEnv, Nat.zero_add, Nat.reduceAdd])
  apply W.sr
  apply omv; rfl; rfl
  apply oop; rfl; apply Pev.nil_ptr; rfl; exact yes
  apply ofa; rfl; rfl; rfl
  apply OL.storeB; rfl; rfl; exact CellsL.one rfl; rfl; rfl; rfl; exact Swap.au; exact Put.au
  apply OL.nx
  apply W.reg
  apply omv; rfl; rfl
  apply omv; rfl; rfl
  apply omv; rfl; rfl
  apply omv; rfl; rfl
  apply oop; rfl; apply Pev.nil_ptr; rfl; exact yes
  apply ofa; rfl; rfl; rfl
  apply ofa; rfl; rfl; rfl
  apply OL.storeB; rfl; rfl; exact CellsL.one rfl; rfl; rfl; rfl; exact Swap.au; exact Put.au
  apply oop; rfl; apply Pev.nil_ptr; rfl; exact yes
  apply ofa; rfl; rfl; rfl
  apply ofa; rfl; rfl; rfl
  apply OL.storeB; rfl; rfl; exact CellsL.one rfl; rfl; rfl; rfl; exact Swap.au; exact Put.au
  apply OL.nil
  exact At.end_ (At.fin0 rfl (fun w' hw' => ⟨rfl, hw'⟩))
theorem choice_calls (t : Tm) (y : TmY) (n : Int) (w : World) (hk : t.kind = 2 ∨ t.kind = 3) (hcl : t.cases.length ≤ 1000000) (hI : IntsO w (low w) t.cases y.c.1) :
    Calls Try.prog 165 [.agg (tmC t y).toArray, .int .i64 n].toArray w fun e w' => e = .returned (.int .i64 (chooseE t n : Int)) ∧ Ext w w' := by
  obtain ⟨v, hv⟩ : ∃ v, chooseE t n = v := ⟨_, rfl⟩
  rw [hv]
  unfold chooseE at hv
  refine enter Try.func165 rfl Try.ntmps165 rfl (Cls.start w) ?_
  (simp only [argEnv, Nat.zero_add, Nat.reduceAdd])
  unfold tmC
  apply W.sr
  apply OL.box; rfl; rfl; exact CellsL.agg; (intro bk hbk; simp only [AllLe, and_true] at hbk)
  apply oas; rfl; rfl
  apply OL.nx
  apply W.seq
  apply W.sr
  apply ofa; rfl; rfl; rfl
  apply old; rfl; rfl; exact .head _; rfl; rfl
  apply obn; rfl; rfl; rfl; apply Bin.eql
  apply OL.nx
  revert bk
  intro b2 hb2x
  have hb2 : w.heap.size ≤ b2 := by first | exact hb2x | exact hb2x.1
  (refine W.cnd (fun h2 => ?_) (fun h2 => ?_)) <;> (try (exfalso; first | omega | exact h2 trivial | contradiction))
  · rw [if_pos h2] at hv
    apply W.seq
    apply W.sr
    apply omv; rfl; rfl
    apply obn; rfl; rfl; rfl; apply Bin.neq
    apply OL.nx
    (refine W.cnd (fun h0 => ?_) (fun h0 => ?_)) <;> (try (exfalso; first | omega | exact h0 trivial | contradiction))
    · rw [if_neg h0] at hv
      apply W.sr
      apply oas; rfl; rfl
      apply OL.nx
      refine W.rt ?_
      ((with_reducible apply At.fin1); rfl; rfl; intro w' hw')
      exact ⟨by rw [← hv]; rfl, hw'.toExt (by exact mau) (fun k hk => NotOwned.blk (by omega) NotOwned.nil)⟩
    · rw [if_pos (by omega)] at hv
      apply W.sk
      apply W.sr
      apply oas; rfl; rfl
      apply OL.nx
      refine W.rt ?_
      ((with_reducible apply At.fin1); rfl; rfl; intro w' hw')
      exact ⟨by rw [← hv]; rfl, hw'.toExt (by exact mau) (fun k hk => NotOwned.blk (by omega) NotOwned.nil)⟩
  rw [if_neg h2] at hv
  have hx := idxI_N n t.cases 0
  have hbd := idxN_bd n t.cases 0
  apply W.sk
  apply W.seq
  apply W.sr
  apply ofa; rfl; rfl; rfl
  apply old; rfl; rfl; exact .head _; rfl; rfl
  apply omv; rfl; rfl
  (((first | (with_reducible apply OL.op) | (with_reducible apply QL.op)); (exact Guard.au); rfl; rfl); (exact Pev.call rfl (by exact Args.au) (fun _ w2 hw2 => (IIndex_calls y.c.1 y.c.2 t.cases n w2 (by omega) (hI.at hw2 (by exact mau) (fun k hk => NotOwned.blk (by omega) NotOwned.nil))).mono (fun e w3 h => ⟨h.1, hw2.ext h.2⟩))))
  apply oas; rfl; rfl
  apply OL.nsr
  apply omv; rfl; rfl
  apply obn; rfl; rfl; rfl; apply Bin.geq
  apply OL.nx
  (refine W.cnd (fun h3 => ?_) (fun h3 => ?_)) <;> (try (exfalso; first | omega | exact h3 trivial | contradiction))
  · apply W.sr
    apply omv; rfl; rfl
    apply oas; rfl; rfl
    apply OL.nx
    refine W.rt ?_
    ((with_reducible apply At.fin1); rfl; rfl; intro w' hw')
    exact ⟨by rw [← hv, hx, if_pos (by omega)], hw'.toExt (by exact mau) (fun k hk => NotOwned.blk (by omega) NotOwned.nil)⟩
  · apply W.sk
    apply W.sr
    apply ofa; rfl; rfl; rfl
    apply old; rfl; rfl; exact .head _; rfl; rfl
    apply oop; rfl; apply Pev.len_slice; rfl; exact yes; rfl
    apply oas; rfl; rfl
    apply OL.nx
    apply W.ret
    ((with_reducible apply At.fin1); rfl; rfl; intro w' hw')
    exact ⟨by rw [← hv, hx, if_neg (by omega), Nat.zero_add], hw'.toExt (by exact mau) (fun k hk => NotOwned.blk (by omega) NotOwned.nil)⟩
end Go.Proofs.Ytehelljmaiophaa.ss

/- The walks of ssa's machine: enter, follow, leave. Conditions: none. -/
namespace Go.Eng
theorem Cls.in2 {H : List Item} {S : List World} {w : World} {i a b : Item} (h : Cls (i :: a :: b :: H) S w) : Cls (a :: b :: i :: H) S w := h.perm (List.Perm.append_right H (List.perm_append_comm (l₁ := [i]) (l₂ := [a, b])))
end Go.Eng
namespace Go.Ss
open Go.Eng Go.RowKit
def pputs : VM → List Int → List PV → VM
  | m, p :: ps, v :: vs => pputs (pput m p v) ps vs
  | m, _, _ => m
theorem pputs_snoc : ∀ (m : VM) (ps : List Int) (vs : List PV) (i : Nat) (p : Int) (v : PV), ps[i]? = some p → vs[i]? = some v → pputs m (ps.take (i + 1)) (vs.take (i + 1)) = pput (pputs m (ps.take i) (vs.take i)) p v
  | m, [], vs, i, p, v, hp, _ => by simp at hp
  | m, _ :: _, [], i, p, v, _, hv => by simp at hv
  | m, p0 :: ps, v0 :: vs, 0, p, v, hp, hv => by
    obtain rfl := Option.some.inj hp
    obtain rfl := Option.some.inj hv
    simp [pputs]
  | m, p0 :: ps, v0 :: vs, i + 1, p, v, hp, hv => by
    simp only [List.take_succ_cons, pputs]
    exact pputs_snoc (pput m p0 v0) ps vs i p v hp hv
def ptrs (l : List Nat) : List Value := l.map fun b => .pointer (some ⟨b, 0, none⟩)
theorem ptrs_append (l m : List Nat) : ptrs (l ++ m) = ptrs l ++ ptrs m := by simp [ptrs]
theorem ptrs_len (l : List Nat) : (ptrs l).length = l.length := by simp [ptrs]
theorem ptrs_get {l : List Nat} {i b : Nat} (h : l[i]? = some b) : (ptrs l)[i]? = some (.pointer (some ⟨b, 0, none⟩)) := by simp [ptrs, h]
end Go.Ss
namespace Go.Proofs.Ytehelljmaiophaa.ss
set_option maxRecDepth 100000
open Go.Eng Go.RowKit Go.Ss
theorem enter_calls (s0 : World) (fns : List (Go.Ss.Fn × FnY)) (bm : Nat) (m : MS) (hu : Arr fnR s0 (low s0) fns m.qF) (hn : m.nF = fns.length) (fn : Nat) (p : Go.Ss.Fn × FnY) (hfn : fns[fn]? = some p) (b : Bk) (hb0 : p.1.blocks[0]? = some b) (vs : List PV) (q : Option Addr) (cap bt : Nat) (hlen : b.params.length = vs.length) (hl6 : vs.length ≤ 4096) (to_ : Int)
    (H : List Eng.Item) (S : List World) (hs0 : s0 ∈ S) (hno : ∀ k, k < s0.heap.size → NotOwned H k) (hbm : s0.heap.size ≤ bm) (hbt : vs ≠ [] → q = some ⟨bt, 0, none⟩ ∧ blk bt 198 (cat pC vs) ∈ H) (O : Nat → Prop) (B : Nat) (hbs : ∃ s ∈ S, B ≤ s.heap.size) (hB : s0.heap.size ≤ B) (ps : List Nat) (hps : ps.length = m.ns) (hp6 : m.ns ≤ 1000000) (w : World)
    (hc : Cls (blk bm 160 m.c :: row B O m.qs m.ns m.cs 192 1 (ptrs ps) :: H) S w) :
    Calls Try.prog 108 [.pointer (some ⟨bm, 0, none⟩), .int .i64 (fn : Int), .slice q vs.length cap, .int .i64 to_].toArray w fun e w' => ∃ (bf bp c' : Nat) (O' : Nat → Prop) (q' : Option Addr), (AllLe S bf ∧ AllLe S bp) ∧ e = .returned (.tuple #[]) ∧
      Cls (blk bf 195 (frC fn 0 0 to_ bp) :: mapI bp (mc (pputs [] b.params vs)) :: blk bm 160 { m with qs := q', ns := m.ns + 1, cs := c' }.c :: row B O' q' (m.ns + 1) c' 192 1 (ptrs (ps ++ [bf])) :: H) S w' := by
  obtain ⟨a, x, hqa, hab, hx, hcF, hok⟩ := hu.get (show fn < fns.length from (List.getElem?_eq_some_iff.1 hfn).1)
  rw [hfn] at hx
  obtain rfl := Option.some.inj hx
  have hfl := (List.getElem?_eq_some_iff.1 hfn).1
  have hab : a.block < s0.heap.size := hab
  have hcF : CellsAt s0 (a.add (fn * 2)) [.int .i64 p.1.name, .slice p.2.q p.1.blocks.length p.2.c] := hcF
  obtain ⟨es, hes, he⟩ := hok.b
  have hbl := (List.getElem?_eq_some_iff.1 hb0).1
  have hel : es.length = p.1.blocks.length := by rw [← hes, List.length_map]
  obtain ⟨a2, y, hq2, hab2, hy, hcB, hokB⟩ := he.get (show 0 < es.length by omega)
  have hyb : y.1 = b := by
    rw [← hes, List.getElem?_map, hy] at hb0
    exact Option.some.inj hb0
  subst hyb
  have hab2 : a2.block < s0.heap.size := hab2
  have hcB : CellsAt s0 (a2.add (0 * 7)) [.slice y.2.p.1 y.1.params.length y.2.p.2, .slice y.2.i.1 y.1.ins.length y.2.i.2, .int .i64 y.1.term.kind, .int .i64 y.1.term.arg, .int .i64 y.1.term.n, .slice y.2.t.c.1 y.1.term.cases.length y.2.t.c.2, .slice y.2.t.t.1 y.1.term.to_.length y.2.t.t.2] := hcB
  have hIp := hokB.p
  rw [hq2] at hcF
  obtain ⟨qF, nF, cF, main, qs, ns, cs, left, sh, ov, qo, no, co, en, va⟩ := m
  simp only [MS.c] at hc ⊢
  simp only at hn hu hps hp6 hqa
  subst hn hqa
  refine enter Try.func108 rfl Try.ntmps108 rfl hc ?_
  (simp only [argEnv, Nat.zero_add, Nat.reduceAdd])
  apply W.sr
  apply omv; rfl; rfl
  apply omv; rfl; rfl
  apply OL.imakeMap; rfl; rfl; (intro bk hbk; have hbk0 := hbk.mem s0 hs0)
  apply oop; rfl; apply Pev.build; rfl; exact CellsL.agg; rfl; exact Fill.au; rfl
  apply OL.box; rfl; rfl; exact CellsL.agg; (intro bk hbk; have hbk0 := hbk.mem s0 hs0)
  apply oas; rfl; rfl
  apply OL.nx
  apply W.seq
  apply W.sr
  apply omv; rfl; rfl
  apply oop; rfl; apply Pev.nil_ptr; rfl; exact yes
  apply ofa; rfl; rfl; rfl
  apply ofa; rfl; rfl; rfl
  apply old; rfl; rfl; exact .tail _ (.tail _ (.head _)); rfl; rfl
  apply omv; rfl; rfl
  apply oop; rfl; apply Pev.idx; rfl; exact yes; rfl; exact yes; rfl; rfl; intro hcond; omega
  apply oop; rfl; apply Pev.fldA; rfl; exact yes; rfl
  apply oop; rfl; apply Pev.load_kept; rfl; exact yes; assumption; rfl; intro hcond; apply CellsAt.at_ (by assumption) rfl; intro hcond; (simp only [add_block]; assumption); intro hcond; exact NotOwned.au
  apply oop; rfl; apply Pev.idx; rfl; exact yes; rfl; exact yes; rfl; rfl; intro hcond; omega
  apply oop; rfl; apply Pev.fldA; rfl; exact yes; rfl
  apply oop; rfl; apply Pev.load_kept; rfl; exact yes; assumption; rfl; intro hcond; apply CellsAt.at_ (by assumption) rfl; intro hcond; assumption; intro hcond; exact NotOwned.au
  apply oop; rfl; apply Pev.len_slice; rfl; exact yes; rfl
  apply omv; rfl; rfl
  apply OL.nx
  apply W.block
  rename_i bp hbp hbp0
  revert hbk0
  revert bk
  intro bf hbf hbf0
  refine W.loop (G := Nat) (fun i => i ≤ vs.length) (fun i => vs.length - i)
    (fun i => [(0, true, .pointer (some ⟨bm, 0, none⟩)), (2, true, .slice q vs.length cap), (8, true, .pointer (some ⟨bf, 0, none⟩)), (27, true, .slice y.2.p.1 y.1.params.length y.2.p.2), (28, true, .int .i64 (y.1.params.length : Int)), (29, true, .int .i64 (i : Int))])
    (fun i => Cls (blk bf 195 [.int .i64 (fn : Int), .int .i64 0, .int .i64 0, .int .i64 to_, .map (some bp)] :: mapI bp (mc (pputs [] (y.1.params.take i) (vs.take i))) :: blk bm 160 [.slice (some a) fns.length cF, .int .i64 main, .slice qs ns cs, .int .i64 left, .bool sh, .bool ov, .slice qo no co, .int .i64 en, .int .i64 va] :: row B O qs ns cs 192 1 (ptrs ps) :: H) S) 0 (by omega) (by exact Sub.au) (fun w' hw' => hw') ?_
  intro i hi
  apply W.sr
  apply obn; rfl; rfl; rfl; apply Bin.lss
  apply OL.nx
  apply W.seq
  (refine W.cnd (fun hlt => ?_) (fun hlt => ?_)) <;> (try (exfalso; first | omega | exact hlt trivial | contradiction))
  · have hil : i < vs.length := by omega
    obtain ⟨v, hv⟩ : ∃ v, vs[i]? = some v := ⟨_, List.getElem?_eq_getElem hil⟩
    obtain ⟨hqb, hmb⟩ := hbt (fun e => by rw [e] at hil; simp at hil)
    obtain ⟨ap, u, hqp, hap, hu1, hcp⟩ := hIp.get (show i < y.1.params.length by omega)
    have hap : ap.block < s0.heap.size := hap
    have hsn := pputs_snoc [] y.1.params vs i u v hu1 hv
    rw [hqp, hqb]
    apply W.sk
    apply W.sb
    apply W.sr
    apply omv; rfl; rfl
    apply oop; rfl; apply Pev.idx; rfl; exact yes; rfl; exact yes; rfl; rfl; intro hcond; omega
    apply oop; rfl; apply Pev.load_kept; rfl; exact yes; assumption; rfl; intro hcond; assumption; intro hcond; (rw [add_block]; assumption); intro hcond; exact NotOwned.au
    apply oas; rfl; rfl
    apply oas; rfl; rfl
    apply OL.nx
    apply W.regq; apply Split.s rfl; apply Split.s rfl; apply Split.s rfl; apply Split.s rfl; apply Split.s rfl; apply Split.s rfl; apply Split.s rfl; apply Split.s rfl; apply Split.s rfl; exact Split.z rfl; kernel_rfl; decide +kernel; exact fun w hw => hw.drew
    apply qmv; rfl; rfl
    apply qop; rfl; apply Pev.nil_ptr; rfl; exact yes
    apply qfa; rfl; rfl; rfl
    apply qld; rfl; rfl; exact .head _; rfl; rfl
    apply qmv; rfl; rfl
    apply qmv; rfl; rfl
    apply qmv; rfl; rfl
    apply qop; rfl; apply Pev.idxB; rfl; exact yes; rfl; exact yes; rfl; intro hcond; omega; rfl
    (((first | (with_reducible apply OL.op) | (with_reducible apply QL.op)); (exact Guard.au); rfl; rfl); (exact Pev.load_blkE (vs := pC v) rfl (by (first | exact fun _ => rfl | exact fun h => h | (intro h; simp_all; done))) (.tail _ (.tail _ (.tail _ (.tail _ hmb)))) rfl rfl (fun _ jj x hj => by rw [show 0 + ((i : Nat) : Int).toNat * 4 = i * 4 by omega]; exact cat_get (f := pC) (sz := 4) (fun _ => rfl) hv jj x hj)))
    with_reducible apply QL.tail
    apply OL.iput; rfl; rfl; rfl; rfl; exact Hole.au
    apply OL.nil
    with_reducible apply At.in_normal
    with_reducible apply At.next
    apply W.reg
    apply obn; rfl; rfl; rfl; apply Bin.add_in; omega
    apply omv; rfl; rfl
    apply OL.nil
    rw [iput_mc, ← hsn]
    exact At.again (i + 1) (by omega) (by omega) (by exact Sub.au) (fun w' hw' => hw')
  · obtain rfl : i = vs.length := by omega
    rw [← hlen, List.take_length, hlen, List.take_length]
    refine W.xt ?_
    with_reducible apply At.next
    apply W.reg
    apply omv; rfl; rfl
    apply omv; rfl; rfl
    apply oop; rfl; apply Pev.nil_ptr; rfl; exact yes
    apply ofa; rfl; rfl; rfl
    apply old; rfl; rfl; exact .tail _ (.tail _ (.head _)); rfl; rfl
    apply omv; rfl; rfl
    apply OL.buildSlice; rfl; rfl; rfl; exact Elems.au; rfl; rfl; (intro bk hbk; have hbk0 := hbk.mem s0 hs0)
    apply OL.append; rfl; rfl; rfl; rfl; exact Hole.au; exact .head _; exact Take.au; rfl; rfl; assumption; omega; intro O1 g1 cap1
    apply oop; rfl; apply Pev.nil_ptr; rfl; exact yes
    apply ofa; rfl; rfl; rfl
    apply OL.storeB; rfl; rfl; exact CellsL.one rfl; rfl; rfl; rfl; exact Swap.au; exact Put.au
    apply OL.nil
    refine At.end_ (At.fin0 rfl (fun w' hw' => ⟨bf, bp, cap1, O1, some ⟨g1, 0, none⟩, ⟨hbf, hbp⟩, rfl, ?_⟩))
    rw [ptrs_append]
    exact hw'.thin (.any (fun k hk => by rw [show k = bk from hk]; exact hbk) Thin.same)
theorem follow_calls (s0 : World) (fns : List (Go.Ss.Fn × FnY)) (bm : Nat) (m : MS) (hu : Arr fnR s0 (low s0) fns m.qF) (hn : m.nF = fns.length) (fn bk0 at_ : Nat) (to_ : Int) (bf bp : Nat) (mp : VM) (p : Go.Ss.Fn × FnY) (hfn : fns[fn]? = some p) (e : Ed) (ey : Sc) (he1 : e.args.length ≤ 1000000) (heI : IntsO s0 (low s0) e.args ey.1) (k : Nat) (hek : e.block = (k : Int)) (b : Bk) (hbk : p.1.blocks[k]? = some b) (hlen : b.params.length = e.args.length)
    (H : List Eng.Item) (S : List World) (hs0 : s0 ∈ S) (hno : ∀ k, k < s0.heap.size → NotOwned H k) (hbm : s0.heap.size ≤ bm) (hbf : s0.heap.size ≤ bf) (hbp : s0.heap.size ≤ bp) (w : World)
    (hc : Cls (blk bf 195 (frC fn bk0 at_ to_ bp) :: mapI bp (mc mp) :: blk bm 160 m.c :: H) S w) :
    Calls Try.prog 163 [.pointer (some ⟨bm, 0, none⟩), .pointer (some ⟨bf, 0, none⟩), .agg (edC e ey).toArray].toArray w fun r w' => r = .returned (.tuple #[]) ∧
      Cls (blk bf 195 (frC fn k 0 to_ bp) :: mapI bp (mc (pputs mp b.params (e.args.map (pget mp)))) :: blk bm 160 m.c :: H) S w' := by
  obtain ⟨a, x, hqa, hab, hx, hcF, hok⟩ := hu.get (show fn < fns.length from (List.getElem?_eq_some_iff.1 hfn).1)
  rw [hfn] at hx
  obtain rfl := Option.some.inj hx
  have hfl := (List.getElem?_eq_some_iff.1 hfn).1
  have hab : a.block < s0.heap.size := hab
  have hcF : CellsAt s0 (a.add (fn * 2)) [.int .i64 p.1.name, .slice p.2.q p.1.blocks.length p.2.c] := hcF
  obtain ⟨es, hes, he⟩ := hok.b
  have hbl := (List.getElem?_eq_some_iff.1 hbk).1
  have hel : es.length = p.1.blocks.length := by rw [← hes, List.length_map]
  obtain ⟨a2, y, hq2, hab2, hy, hcB, hokB⟩ := he.get (show k < es.length by omega)
  have hyb : y.1 = b := by
    rw [← hes, List.getElem?_map, hy] at hbk
    exact Option.some.inj hbk
  subst hyb
  have hab2 : a2.block < s0.heap.size := hab2
  have hcB : CellsAt s0 (a2.add (k * 7)) [.slice y.2.p.1 y.1.params.length y.2.p.2, .slice y.2.i.1 y.1.ins.length y.2.i.2, .int .i64 y.1.term.kind, .int .i64 y.1.term.arg, .int .i64 y.1.term.n, .slice y.2.t.c.1 y.1.term.cases.length y.2.t.c.2, .slice y.2.t.t.1 y.1.term.to_.length y.2.t.t.2] := hcB
  have hIp := hokB.p
  rw [hq2] at hcF
  obtain ⟨qF, nF, cF, main, qs, ns, cs, left, sh, ov, qo, no, co, en, va⟩ := m
  simp only [MS.c] at hc ⊢
  simp only at hn hu hqa
  subst hn hqa
  unfold frC at hc ⊢
  refine enter Try.func163 rfl Try.ntmps163 rfl hc ?_
  (simp only [argEnv, Nat.zero_add, Nat.reduceAdd])
  unfold edC
  rw [hek]
  apply W.sr
  apply OL.box; rfl; rfl; exact CellsL.agg; (intro bk hbk; have hbk0 := hbk.mem s0 hs0)
  apply OL.nsr
  apply omv; rfl; rfl
  apply ofa; rfl; rfl; rfl
  apply old; rfl; rfl; exact .head _; rfl; rfl
  rename_i he0
  revert hbk0
  revert bk
  intro be hbe hbe0
  refine OL.callE (α := Nat) (fun b => .slice (some ⟨b, 0, none⟩) e.args.length e.args.length) (fun b => AllLe S b) (fun b => Cls (blk b 198 (cat pC (e.args.map (pget mp))) :: blk bf 195 [.int .i64 (fn : Int), .int .i64 (bk0 : Int), .int .i64 (at_ : Int), .int .i64 to_, .map (some bp)] :: mapI bp (mc mp) :: blk be 105 [.int .i64 (k : Int), .slice ey.1 e.args.length ey.2] :: blk bm 160 [.slice (some a) fns.length cF, .int .i64 main, .slice qs ns cs, .int .i64 left, .bool sh, .bool ov, .slice qo no co, .int .i64 en, .int .i64 va] :: H) S) rfl rfl (by exact Args.au) (fun w2 hw2 => (take_calls bf bp fn bk0 at_ to_ mp ey.1 ey.2 e.args _ S s0 hs0 (fun k hk => NotOwned.blk (by omega) (NotOwned.blk (by omega) (hno k hk))) hbf hbp he1 heI w2 hw2.in2).mono fun e w3 ⟨b, h1, h2, h3⟩ => ⟨b, h2, h1, h3⟩) ?_
  intro bt hbt
  have hbt0 : s0.heap.size ≤ bt := hbt.mem s0 hs0
  apply oas; rfl; rfl
  apply OL.nsr
  apply omv; rfl; rfl
  apply omv; rfl; rfl
  apply ofa; rfl; rfl; rfl
  apply old; rfl; rfl; apply List.Mem.tail; exact .tail _ (.tail _ (.head _)); rfl; rfl
  apply oop; rfl; apply Pev.nil_ptr; rfl; exact yes
  apply ofa; rfl; rfl; rfl
  apply OL.storeB; rfl; rfl; exact CellsL.one rfl; rfl; rfl; rfl; exact Swap.au; exact Put.au
  apply oop; rfl; apply Pev.nil_ptr; rfl; exact yes
  apply ofa; rfl; rfl; rfl
  apply OL.storeB; rfl; rfl; exact CellsL.one rfl; rfl; rfl; rfl; exact Swap.au; exact Put.au
  apply OL.nx
  apply W.seq
  apply W.regd0; decide +kernel; kernel_rfl; decide +kernel; exact fun w hw => hw.drew
  apply qmv; rfl; rfl
  apply qop; rfl; apply Pev.nil_ptr; rfl; exact yes
  apply qfa; rfl; rfl; rfl
  apply qfa; rfl; rfl; rfl
  apply qld; rfl; rfl; apply List.Mem.tail; apply List.Mem.tail; exact .tail _ (.tail _ (.head _)); rfl; rfl
  apply qmv; rfl; rfl
  apply qop; rfl; apply Pev.nil_ptr; rfl; exact yes
  apply qfa; rfl; rfl; rfl
  apply qld; rfl; rfl; exact .tail _ (.head _); rfl; rfl
  apply qop; rfl; apply Pev.idx; rfl; exact yes; rfl; exact yes; rfl; rfl; intro hcond; omega
  apply qop; rfl; apply Pev.fldA; rfl; exact yes; rfl
  apply qop; rfl; apply Pev.load_kept; rfl; exact yes; assumption; rfl; intro hcond; apply CellsAt.at_ (by assumption) rfl; intro hcond; (simp only [add_block]; assumption); intro hcond; exact NotOwned.au
  apply qfa; rfl; rfl; rfl
  apply qld; rfl; rfl; apply List.Mem.tail; exact .tail _ (.tail _ (.head _)); rfl; rfl
  apply qop; rfl; apply Pev.idx; rfl; exact yes; rfl; exact yes; rfl; rfl; intro hcond; omega
  apply qop; rfl; apply Pev.fldA; rfl; exact yes; rfl
  apply qop; rfl; apply Pev.load_kept; rfl; exact yes; assumption; rfl; intro hcond; apply CellsAt.at_ (by assumption) rfl; intro hcond; (simp only [add_block]; assumption); intro hcond; exact NotOwned.au
  apply qop; rfl; apply Pev.len_slice; rfl; exact yes; rfl
  apply qmv; rfl; rfl
  apply QL.nil
  with_reducible apply At.next
  apply W.block
  obtain ⟨vs, hvs⟩ : ∃ vs, e.args.map (pget mp) = vs := ⟨_, rfl⟩
  have hvl : vs.length = e.args.length := by rw [← hvs, List.length_map]
  rw [hvs]
  refine W.loop (G := Nat) (fun i => i ≤ vs.length) (fun i => vs.length - i)
    (fun i => [(1, true, .pointer (some ⟨bf, 0, none⟩)), (6, true, .slice (some ⟨bt, 0, none⟩) e.args.length e.args.length), (37, true, .slice y.2.p.1 y.1.params.length y.2.p.2), (38, true, .int .i64 (y.1.params.length : Int)), (39, true, .int .i64 (i : Int))])
    (fun i => Cls (blk bt 198 (cat pC vs) :: blk bf 195 [.int .i64 (fn : Int), .int .i64 (k : Int), .int .i64 0, .int .i64 to_, .map (some bp)] :: mapI bp (mc (pputs mp (y.1.params.take i) (vs.take i))) :: blk be 105 [.int .i64 (k : Int), .slice ey.1 e.args.length ey.2] :: blk bm 160 [.slice (some a) fns.length cF, .int .i64 main, .slice qs ns cs, .int .i64 left, .bool sh, .bool ov, .slice qo no co, .int .i64 en, .int .i64 va] :: H) S) 0 (by omega) (by exact Sub.au) (fun w' hw' => by simp only [List.take_zero, pputs]; exact hw') ?_
  intro i hi
  apply W.sr
  apply obn; rfl; rfl; rfl; apply Bin.lss
  apply OL.nx
  apply W.seq
  (refine W.cnd (fun hlt => ?_) (fun hlt => ?_)) <;> (try (exfalso; first | omega | exact hlt trivial | contradiction))
  · have hil : i < vs.length := by omega
    obtain ⟨v, hv⟩ : ∃ v, vs[i]? = some v := ⟨_, List.getElem?_eq_getElem hil⟩
    obtain ⟨ap, u, hqp, hap, hu1, hcp⟩ := hIp.get (show i < y.1.params.length by omega)
    have hap : ap.block < s0.heap.size := hap
    have hsn := pputs_snoc mp y.1.params vs i u v hu1 hv
    rw [hqp]
    apply W.sk
    apply W.sb
    apply W.sr
    apply omv; rfl; rfl
    apply oop; rfl; apply Pev.idx; rfl; exact yes; rfl; exact yes; rfl; rfl; intro hcond; omega
    apply oop; rfl; apply Pev.load_kept; rfl; exact yes; assumption; rfl; intro hcond; assumption; intro hcond; (rw [add_block]; assumption); intro hcond; exact NotOwned.au
    apply oas; rfl; rfl
    apply oas; rfl; rfl
    apply OL.nx
    apply W.regq; apply Split.s rfl; apply Split.s rfl; apply Split.s rfl; apply Split.s rfl; apply Split.s rfl; apply Split.s rfl; apply Split.s rfl; apply Split.s rfl; apply Split.s rfl; exact Split.z rfl; kernel_rfl; decide +kernel; exact fun w hw => hw.drew
    apply qmv; rfl; rfl
    apply qop; rfl; apply Pev.nil_ptr; rfl; exact yes
    apply qfa; rfl; rfl; rfl
    apply qld; rfl; rfl; exact .tail _ (.head _); rfl; rfl
    apply qmv; rfl; rfl
    apply qmv; rfl; rfl
    apply qmv; rfl; rfl
    apply qop; rfl; apply Pev.idxB; rfl; exact yes; rfl; exact yes; rfl; intro hcond; omega; rfl
    (((first | (with_reducible apply OL.op) | (with_reducible apply QL.op)); (exact Guard.au); rfl; rfl); (exact Pev.load_blkE (vs := pC v) rfl (by (first | exact fun _ => rfl | exact fun h => h | (intro h; simp_all; done))) (.head _) rfl rfl (fun _ jj x hj => by rw [show 0 + ((i : Nat) : Int).toNat * 4 = i * 4 by omega]; exact cat_get (f := pC) (sz := 4) (fun _ => rfl) hv jj x hj)))
    with_reducible apply QL.tail
    apply OL.iput; rfl; rfl; rfl; rfl; exact Hole.au
    apply OL.nil
    with_reducible apply At.in_normal
    with_reducible apply At.next
    apply W.reg
    apply obn; rfl; rfl; rfl; apply Bin.add_in; omega
    apply omv; rfl; rfl
    apply OL.nil
    rw [iput_mc, ← hsn]
    exact At.again (i + 1) (by omega) (by omega) (by exact Sub.au) (fun w' hw' => hw')
  · obtain rfl : i = vs.length := by omega
    rw [List.take_of_length_le (Nat.le_of_eq (by omega) : y.1.params.length ≤ vs.length), List.take_length]
    refine W.xt ?_
    refine At.end_ (At.fin0 rfl (fun w' hw' => ⟨rfl, ?_⟩))
    exact hw'.thin (.any (fun k hk => by rw [show k = bt from hk]; exact hbt) (.keep (.keep (.any (fun k hk => by rw [show k = be from hk]; exact hbe) Thin.same))))
theorem leave_more (bm : Nat) (m : MS) (bf : Nat) (fC : List Value) (fn bk at_ : Nat) (to_ : Int) (bp : Nat) (hfC : fC = frC fn bk at_ to_ bp) (v : PV) (bg bq : Nat) (gn gk ga : Nat) (gt : Int) (mq : VM) (O : Nat → Prop) (B : Nat) (ps : List Nat) (hps : ps.length + 2 = m.ns) (hp6 : m.ns ≤ 1000000)
    (H : List Eng.Item) (S : List World) (s0 : World) (hs0 : s0 ∈ S) (w : World)
    (hc : Cls (blk bf 195 fC :: blk bg 195 (frC gn gk ga gt bq) :: mapI bq (mc mq) :: blk bm 160 m.c :: row B O m.qs m.ns m.cs 192 1 (ptrs (ps ++ [bg, bf])) :: H) S w) :
    Calls Try.prog 164 [.pointer (some ⟨bm, 0, none⟩), .pointer (some ⟨bf, 0, none⟩), .agg (pC v).toArray].toArray w fun r w' => r = .returned (.tuple #[]) ∧
      Cls (blk bf 195 fC :: blk bg 195 (frC gn gk ga gt bq) :: mapI bq (mc (pput mq to_ v)) :: blk bm 160 { m with ns := m.ns - 1 }.c :: row B O m.qs (m.ns - 1) m.cs 192 1 (ptrs (ps ++ [bg])) :: H) S w' := by
  subst hfC
  obtain ⟨qF, nF, cF, main, qs, ns, cs, left, sh, ov, qo, no, co, en, va⟩ := m
  simp only [MS.c, frC] at hc ⊢
  simp only at hps hp6
  refine enter Try.func164 rfl Try.ntmps164 rfl hc ?_
  (simp only [argEnv, Nat.zero_add, Nat.reduceAdd])
  obtain rfl : ns = ps.length + 2 := hps.symm
  refine W.fact (fun w2 hw2 => row_cap (hw2.item (.tail _ (.tail _ (.tail _ (.tail _ (.head _))))))) (fun hcw => ?_)
  refine W.fact (fun w2 hw2 => row_some (hw2.item (.tail _ (.tail _ (.tail _ (.tail _ (.head _)))))) (by omega)) ?_
  rintro ⟨gs, hgs⟩
  subst hgs
  have hI1 : ((ps.length + 2 : Nat) : Int) - 1 = ((ps.length + 1 : Nat) : Int) := by omega
  have hI2 : ((ps.length + 1 : Nat) : Int) - 1 = (ps.length : Int) := by omega
  apply W.sr
  apply OL.box; rfl; rfl; exact CellsL.agg; (intro bk hbk; have hbk0 := hbk.mem s0 hs0)
  apply OL.nx
  apply W.seq
  apply W.regq; apply Split.s rfl; apply Split.s rfl; apply Split.s rfl; apply Split.s rfl; apply Split.s rfl; apply Split.s rfl; apply Split.s rfl; apply Split.s rfl; apply Split.s rfl; apply Split.s rfl; apply Split.s rfl; apply Split.s rfl; apply Split.s rfl; apply Split.s rfl; exact Split.z rfl; kernel_rfl; decide +kernel; exact fun w hw => hw.drew
  apply qmv; rfl; rfl
  apply qmv; rfl; rfl
  apply qop; rfl; apply Pev.nil_ptr; rfl; exact yes
  apply qfa; rfl; rfl; rfl
  apply qld; rfl; rfl; apply List.Mem.tail; apply List.Mem.tail; exact .tail _ (.tail _ (.head _)); rfl; rfl
  apply qmv; rfl; rfl
  apply qop; rfl; apply Pev.nil_ptr; rfl; exact yes
  apply qfa; rfl; rfl; rfl
  apply qld; rfl; rfl; apply List.Mem.tail; apply List.Mem.tail; exact .tail _ (.tail _ (.head _)); rfl; rfl
  apply qop; rfl; apply Pev.len_slice; rfl; exact yes; rfl
  apply qbn; rfl; rfl; rfl; apply Bin.sub_in; omega
  apply qop; rfl; apply Pev.slice_hi; rfl; exact yes; rfl; exact yes; rfl; (first | exact (Int.toNat_of_nonneg (by omega)).symm | omega); intro hcond; omega
  apply qop; rfl; apply Pev.nil_ptr; rfl; exact yes
  apply qfa; rfl; rfl; rfl
  with_reducible apply QL.tail
  apply OL.storeB; rfl; rfl; exact CellsL.one rfl; rfl; rfl; rfl; exact Swap.au; exact Put.au
  apply OL.nx
  apply W.seq
  apply W.sr
  apply omv; rfl; rfl
  apply oop; rfl; apply Pev.nil_ptr; rfl; exact yes
  apply ofa; rfl; rfl; rfl
  apply old; rfl; rfl; apply List.Mem.tail; apply List.Mem.tail; exact .tail _ (.tail _ (.head _)); rfl; rfl
  apply oop; rfl; apply Pev.len_slice; rfl; exact yes; rfl
  apply obn; rfl; rfl; rfl; apply Bin.gtr
  apply OL.nx
  rw [hI1, Int.toNat_natCast]
  revert hbk0
  revert bk
  intro b5 hb5 hb50
  refine W.cond rfl (fun _ => ?_) (fun h => by simp at h)
  have hrv : (ptrs (ps ++ [bg, bf]))[0 + (ps.length : Int).toNat * 1]? = some (.pointer (some ⟨bg, 0, none⟩)) := by
    rw [show 0 + (ps.length : Int).toNat * 1 = ps.length by omega]
    exact ptrs_get (by simp)
  apply W.seq
  apply W.regq; apply Split.s rfl; apply Split.s rfl; apply Split.s rfl; apply Split.s rfl; apply Split.s rfl; apply Split.s rfl; apply Split.s rfl; apply Split.s rfl; apply Split.s rfl; apply Split.s rfl; apply Split.s rfl; apply Split.s rfl; apply Split.s rfl; apply Split.s rfl; apply Split.s rfl; apply Split.s rfl; apply Split.s rfl; apply Split.s rfl; apply Split.s rfl; apply Split.s rfl; exact Split.z rfl; kernel_rfl; decide +kernel; exact fun w hw => hw.drew
  apply qmv; rfl; rfl
  apply qop; rfl; apply Pev.nil_ptr; rfl; exact yes
  apply qfa; rfl; rfl; rfl
  apply qld; rfl; rfl; apply List.Mem.tail; apply List.Mem.tail; exact .tail _ (.tail _ (.head _)); rfl; rfl
  apply qmv; rfl; rfl
  apply qop; rfl; apply Pev.nil_ptr; rfl; exact yes
  apply qfa; rfl; rfl; rfl
  apply qld; rfl; rfl; apply List.Mem.tail; apply List.Mem.tail; exact .tail _ (.tail _ (.head _)); rfl; rfl
  apply qop; rfl; apply Pev.len_slice; rfl; exact yes; rfl
  apply qbn; rfl; rfl; rfl; apply Bin.sub_in; omega
  apply qop; rfl; apply Pev.idxB; rfl; exact yes; rfl; exact yes; rfl; intro hcond; omega; rfl
  rw [hI2]
  apply qop; rfl; apply Pev.load_row; rfl; exact yes; apply List.Mem.tail; apply List.Mem.tail; apply List.Mem.tail; exact .tail _ (.tail _ (.head _)); rfl; assumption
  apply qop; rfl; apply Pev.nil_ptr; rfl; exact yes
  apply qfa; rfl; rfl; rfl
  apply qld; rfl; rfl; exact .tail _ (.tail _ (.head _)); rfl; rfl
  apply qmv; rfl; rfl
  apply qop; rfl; apply Pev.nil_ptr; rfl; exact yes
  apply qfa; rfl; rfl; rfl
  apply qld; rfl; rfl; exact .tail _ (.head _); rfl; rfl
  apply qop; rfl; apply Pev.load_blkA; rfl; exact yes; exact .head _; rfl; exact Take.au
  with_reducible apply QL.tail
  apply OL.iput; rfl; rfl; rfl; rfl; exact Hole.au
  apply OL.nx
  refine W.rt ?_
  have e : iput (mc mq) to_ (.agg #[.int .i64 v.k, .int .i64 v.n, .slice v.q v.l.length v.cap, .pointer (if v.k = 3 then some ⟨v.b, 0, none⟩ else none)]) = mc (pput mq to_ v) := iput_mc mq to_ v
  rw [e]
  refine At.fin0 rfl (fun w' hw' => ⟨rfl, ?_⟩)
  have h1 := hw'.thin (.any (fun k hk => by rw [show k = b5 from hk]; exact hb5) Thin.same)
  exact h1.rowPop (ps.length + 1) (ptrs (ps ++ [bg])) (.s (.s (.s (.s .z)))) (by omega) (by
    rw [show ps ++ [bg, bf] = (ps ++ [bg]) ++ [bf] by simp, ptrs_append (ps ++ [bg]) [bf], Nat.mul_one, List.take_left' (by rw [ptrs_len]; simp)])
theorem leave_last (bm : Nat) (m : MS) (bf : Nat) (fC : List Value) (v : PV) (O : Nat → Prop) (B : Nat) (hns : m.ns = 1)
    (H : List Eng.Item) (S : List World) (s0 : World) (hs0 : s0 ∈ S) (w : World)
    (hc : Cls (blk bm 160 m.c :: row B O m.qs m.ns m.cs 192 1 (ptrs [bf]) :: H) S w) :
    Calls Try.prog 164 [.pointer (some ⟨bm, 0, none⟩), .pointer (some ⟨bf, 0, none⟩), .agg (pC v).toArray].toArray w fun r w' => r = .returned (.tuple #[]) ∧
      Cls (blk bm 160 { m with ns := 0, ov := true, en := 0, va := if v.k = 0 ∨ v.k = 1 then v.n else 0 }.c :: row B O m.qs 0 m.cs 192 1 [] :: H) S w' := by
  obtain ⟨qF, nF, cF, main, qs, ns, cs, left, sh, ov, qo, no, co, en, va⟩ := m
  simp only at hns
  subst hns
  simp only [MS.c] at hc ⊢
  refine enter Try.func164 rfl Try.ntmps164 rfl hc ?_
  (simp only [argEnv, Nat.zero_add, Nat.reduceAdd])
  refine W.fact (fun w2 hw2 => row_cap (hw2.item (.tail _ (.head _)))) (fun hcw => ?_)
  refine W.fact (fun w2 hw2 => row_some (hw2.item (.tail _ (.head _))) (by omega)) ?_
  rintro ⟨gs, hgs⟩
  subst hgs
  apply W.sr
  apply OL.box; rfl; rfl; exact CellsL.agg; (intro bk hbk; have hbk0 := hbk.mem s0 hs0)
  apply OL.nx
  apply W.seq
  apply W.regq; apply Split.s rfl; apply Split.s rfl; apply Split.s rfl; apply Split.s rfl; apply Split.s rfl; apply Split.s rfl; apply Split.s rfl; apply Split.s rfl; apply Split.s rfl; apply Split.s rfl; apply Split.s rfl; apply Split.s rfl; apply Split.s rfl; apply Split.s rfl; exact Split.z rfl; kernel_rfl; decide +kernel; exact fun w hw => hw.drew
  apply qmv; rfl; rfl
  apply qmv; rfl; rfl
  apply qop; rfl; apply Pev.nil_ptr; rfl; exact yes
  apply qfa; rfl; rfl; rfl
  apply qld; rfl; rfl; exact .tail _ (.head _); rfl; rfl
  apply qmv; rfl; rfl
  apply qop; rfl; apply Pev.nil_ptr; rfl; exact yes
  apply qfa; rfl; rfl; rfl
  apply qld; rfl; rfl; exact .tail _ (.head _); rfl; rfl
  apply qop; rfl; apply Pev.len_slice; rfl; exact yes; rfl
  apply qbn; rfl; rfl; rfl; apply Bin.sub_in; omega
  apply qop; rfl; apply Pev.slice_hi; rfl; exact yes; rfl; exact yes; rfl; rfl; intro hcond; omega
  apply qop; rfl; apply Pev.nil_ptr; rfl; exact yes
  apply qfa; rfl; rfl; rfl
  with_reducible apply QL.tail
  apply OL.storeB; rfl; rfl; exact CellsL.one rfl; rfl; rfl; rfl; exact Swap.au; exact Put.au
  apply OL.nx
  apply W.seq
  apply W.sr
  apply omv; rfl; rfl
  apply oop; rfl; apply Pev.nil_ptr; rfl; exact yes
  apply ofa; rfl; rfl; rfl
  apply old; rfl; rfl; exact .tail _ (.head _); rfl; rfl
  apply oop; rfl; apply Pev.len_slice; rfl; exact yes; rfl
  apply obn; rfl; rfl; rfl; apply Bin.gtr
  apply OL.nx
  revert hbk0
  revert bk
  intro b5 hb5 hb50
  refine W.cond rfl (fun h => by simp at h) (fun _ => ?_)
  apply W.sk
  apply W.sr
  apply oas; rfl; rfl
  apply OL.nx
  apply W.seq
  apply W.sr
  apply ofa; rfl; rfl; rfl
  apply old; rfl; rfl; exact .head _; rfl; rfl
  apply obn; rfl; rfl; rfl; apply Bin.eql
  apply omv; rfl; rfl
  apply ono; rfl; rfl; rfl; apply Pev.fld; rfl; exact yes; rfl
  apply ono; rfl; rfl; rfl; apply Pev.load_blk; rfl; exact fun h => h; exact .head _; rfl; rfl
  apply ono; rfl; rfl; rfl; apply Pev.bin; rfl; exact fun h => h; rfl; exact yes; intro hcond; apply Bin.eql
  apply oop; rfl; apply Pev.pick_or; rfl; exact yes; rfl; exact fun h => h
  apply OL.nx
  rw [show (1 - Nat.succ 0 : Nat) = 0 from rfl]
  by_cases hk : v.k = 0 ∨ v.k = 1
  · refine W.cond rfl (fun _ => ?_) (fun h => by simp at h; omega)
    apply W.reg
    apply ofa; rfl; rfl; rfl
    apply old; rfl; rfl; exact .head _; rfl; rfl
    apply oas; rfl; rfl
    apply OL.nx
    apply W.reg
    apply omv; rfl; rfl
    apply omv; rfl; rfl
    refine OL.callE (α := Unit) (fun _ => .tuple #[]) (fun _ => True) (fun _ => Cls (blk bm 160 [.slice qF nF cF, .int .i64 main, .slice (some ⟨gs, 0, none⟩) 0 cs, .int .i64 left, .bool sh, .bool true, .slice qo no co, .int .i64 0, .int .i64 v.n] :: blk b5 198 (pC v) :: row B O (some ⟨gs, 0, none⟩) 1 cs 192 1 (ptrs [bf]) :: H) S) rfl rfl (by exact Args.au) (fun w2 hw2 => (stop_calls bm ⟨qF, nF, cF, main, some ⟨gs, 0, none⟩, 0, cs, left, sh, ov, qo, no, co, en, va⟩ 0 v.n _ S w2 (hw2.perm (List.Perm.swap _ _ _))).mono fun e w3 h => ⟨(), h.1, trivial, h.2⟩) ?_
    intro _ _
    apply OL.nil
    refine At.end_ (At.fin0 rfl (fun w' hw' => ⟨rfl, ?_⟩))
    rw [if_pos hk]
    have h1 := hw'.thin (.keep (.any (fun k hk => by rw [show k = b5 from hk]; exact hb5) Thin.same))
    exact h1.rowPop 0 [] (.s .z) (by omega) rfl
  · refine W.cond rfl (fun h => by simp at h; omega) (fun _ => ?_)
    apply W.sk
    apply W.reg
    apply omv; rfl; rfl
    apply omv; rfl; rfl
    refine OL.callE (α := Unit) (fun _ => .tuple #[]) (fun _ => True) (fun _ => Cls (blk bm 160 [.slice qF nF cF, .int .i64 main, .slice (some ⟨gs, 0, none⟩) 0 cs, .int .i64 left, .bool sh, .bool true, .slice qo no co, .int .i64 0, .int .i64 0] :: blk b5 198 (pC v) :: row B O (some ⟨gs, 0, none⟩) 1 cs 192 1 (ptrs [bf]) :: H) S) rfl rfl (by exact Args.au) (fun w2 hw2 => (stop_calls bm ⟨qF, nF, cF, main, some ⟨gs, 0, none⟩, 0, cs, left, sh, ov, qo, no, co, en, va⟩ 0 0 _ S w2 (hw2.perm (List.Perm.swap _ _ _))).mono fun e w3 h => ⟨(), h.1, trivial, h.2⟩) ?_
    intro _ _
    apply OL.nil
    refine At.end_ (At.fin0 rfl (fun w' hw' => ⟨rfl, ?_⟩))
    rw [if_neg hk]
    have h1 := hw'.thin (.keep (.any (fun k hk => by rw [show k = b5 from hk]; exact hb5) Thin.same))
    exact h1.rowPop 0 [] (.s .z) (by omega) rfl
end Go.Proofs.Ytehelljmaiophaa.ss

/- The walks of ssa's machine: arrays. Conditions: none. -/
namespace Go.Proofs.Ytehelljmaiophaa.ss
set_option maxRecDepth 100000
open Go.Eng Go.RowKit Go.Ss
theorem alloc_calls (bm : Nat) (m : MS) (a0 a1 : PV) (H : List Eng.Item) (S : List World) (s0 : World) (hs0 : s0 ∈ S) (hsh : m.sh = false) (hl0 : 0 ≤ m.left) (hl6 : m.left ≤ 1000000) (w : World) (hc : Cls (blk bm 160 m.c :: H) S w) :
    Calls Try.prog 185 [.pointer (some ⟨bm, 0, none⟩), .agg (pC a0).toArray, .agg (pC a1).toArray].toArray w fun e w' =>
      (a0.k ≠ 0 ∧ e = .returned (.tuple #[.agg (pC zP).toArray, .int .i64 5]) ∧ Cls (blk bm 160 m.c :: H) S w') ∨
      (a0.k = 0 ∧ (a0.n < 0 ∨ 1024 < a0.n) ∧ e = .returned (.tuple #[.agg (pC zP).toArray, .int .i64 6]) ∧ Cls (blk bm 160 m.c :: H) S w') ∨
      (a0.k = 0 ∧ (0 ≤ a0.n ∧ a0.n ≤ 1024) ∧ m.left < a0.n ∧ e = .returned (.tuple #[.agg (pC zP).toArray, .int .i64 0]) ∧ Cls (blk bm 160 { m with sh := true, ov := true }.c :: H) S w') ∨
      (a0.k = 0 ∧ (0 ≤ a0.n ∧ a0.n ≤ 1024) ∧ a0.n ≤ m.left ∧ ∃ bx cb : Nat, (AllLe S bx ∧ AllLe S cb) ∧ e = .returned (.tuple #[.agg (pC (.mk 3 0 none 0 bx [])).toArray, .int .i64 0]) ∧
        Cls (blk bx 191 [.slice (some ⟨cb, 0, none⟩) a0.n.toNat a0.n.toNat] :: blk cb 198 (cat pC (List.replicate a0.n.toNat a1)) :: blk bm 160 { m with left := m.left - a0.n }.c :: H) S w') := by
  refine enter Try.func185 rfl Try.ntmps185 rfl hc ?_
  (simp only [argEnv, Nat.zero_add, Nat.reduceAdd])
  apply W.sr
  apply OL.box; rfl; rfl; exact CellsL.agg; (intro bk hbk; have hbk0 := hbk.mem s0 hs0)
  apply OL.box; rfl; rfl; exact CellsL.agg; (intro bk hbk; have hbk0 := hbk.mem s0 hs0)
  apply OL.alloc; rfl; rfl; exact CellsL.agg; (intro bk hbk; have hbk0 := hbk.mem s0 hs0)
  apply oas; rfl; rfl
  apply OL.nx
  apply W.sb
  apply W.sr
  apply ofa; rfl; rfl; rfl
  apply old; rfl; rfl; exact .tail _ (.tail _ (.head _)); rfl; rfl
  apply obn; rfl; rfl; rfl; apply Bin.neq
  apply oas; rfl; rfl
  apply OL.nx
  rename_i b4 hb4 hb40 b5 hb5 hb50
  revert hbk0
  revert bk
  intro b6 hb6 hb60
  (refine W.cnd (fun h1 => ?_) (fun h1 => ?_)) <;> (try (exfalso; first | omega | exact h1 trivial | contradiction))
  · apply W.sr
    apply oop; rfl; apply Pev.build; rfl; exact CellsL.agg; rfl; exact Fill.au; rfl
    apply OL.storeB; rfl; rfl; exact CellsL.agg; rfl; rfl; rfl; exact Swap.au; exact Put.au
    apply oas; rfl; rfl
    apply OL.nx
    refine W.rt ?_
    refine At.finCT (b := b6) (cs := [.int .i64 0, .int .i64 0, .slice none 0 0, .pointer none]) rfl rfl (by exact mau) rfl rfl rfl (fun w' hw' => .inl ⟨h1, rfl, ?_⟩)
    exact hw'.thin (.any (fun k hk => by rw [show k = b6 from hk]; exact hb6) (.any (fun k hk => by rw [show k = b5 from hk]; exact hb5) (.any (fun k hk => by rw [show k = b4 from hk]; exact hb4) Thin.same)))
  have hk0 : a0.k = 0 := by omega
  apply W.sr
  apply ofa; rfl; rfl; rfl
  apply old; rfl; rfl; exact .tail _ (.tail _ (.head _)); rfl; rfl
  apply obn; rfl; rfl; rfl; apply Bin.lss
  apply omv; rfl; rfl
  apply ono; rfl; rfl; rfl; apply Pev.fld; rfl; exact yes; rfl
  apply ono; rfl; rfl; rfl; apply Pev.load_blk; rfl; exact fun h => h; exact .tail _ (.tail _ (.head _)); rfl; rfl
  apply ono; rfl; rfl; rfl; apply Pev.bin; rfl; exact fun h => h; rfl; exact yes; intro hcond; apply Bin.gtr
  apply oop; rfl; apply Pev.pick_or; rfl; exact yes; rfl; exact fun h => h
  apply oas; rfl; rfl
  apply OL.nx
  by_cases h2 : a0.n < 0 ∨ 1024 < a0.n
  · refine W.cond rfl (fun _ => ?_) (fun h => by simp at h; omega)
    apply W.sr
    apply oop; rfl; apply Pev.build; rfl; exact CellsL.agg; rfl; exact Fill.au; rfl
    apply OL.storeB; rfl; rfl; exact CellsL.agg; rfl; rfl; rfl; exact Swap.au; exact Put.au
    apply oas; rfl; rfl
    apply OL.nx
    refine W.rt ?_
    refine At.finCT (b := b6) (cs := [.int .i64 0, .int .i64 0, .slice none 0 0, .pointer none]) rfl rfl (by exact mau) rfl rfl rfl (fun w' hw' => .inr (.inl ⟨hk0, h2, rfl, ?_⟩))
    exact hw'.thin (.any (fun k hk => by rw [show k = b6 from hk]; exact hb6) (.any (fun k hk => by rw [show k = b5 from hk]; exact hb5) (.any (fun k hk => by rw [show k = b4 from hk]; exact hb4) Thin.same)))
  refine W.cond rfl (fun h => by simp at h; omega) (fun _ => ?_)
  apply W.skip
  with_reducible apply At.in_normal
  with_reducible apply At.next
  apply W.sr
  apply omv; rfl; rfl
  apply ofa; rfl; rfl; rfl
  apply old; rfl; rfl; exact .tail _ (.tail _ (.head _)); rfl; rfl
  by_cases h3 : m.left < a0.n
  · refine OL.callE (α := Unit) (fun _ => .tuple #[]) (fun _ => True) (fun _ => Cls (blk bm 160 [.slice m.qF m.nF m.cF, .int .i64 m.main, .slice m.qs m.ns m.cs, .int .i64 m.left, .bool true, .bool true, .slice m.qo m.no m.co, .int .i64 m.en, .int .i64 m.va] :: blk b6 198 [.int .i64 0, .int .i64 0, .slice none 0 0, .pointer none] :: blk b5 198 (pC a1) :: blk b4 198 (pC a0) :: H) S) rfl rfl (by exact Args.au) (fun w2 hw2 => (pay_no bm m a0.n _ S w2 h3 hw2.out3).mono fun e w3 h => ⟨(), h.1, trivial, h.2⟩) ?_
    intro _ _
    apply OL.nx
    apply W.seq
    apply W.sr
    apply omv; rfl; rfl
    apply oop; rfl; apply Pev.nil_ptr; rfl; exact yes
    apply ofa; rfl; rfl; rfl
    apply old; rfl; rfl; exact .head _; rfl; rfl
    apply OL.nx
    refine W.cond rfl (fun _ => ?_) (fun h => by simp at h)
    apply W.sr
    apply oop; rfl; apply Pev.build; rfl; exact CellsL.agg; rfl; exact Fill.au; rfl
    apply OL.storeB; rfl; rfl; exact CellsL.agg; rfl; rfl; rfl; exact Swap.au; exact Put.au
    apply oas; rfl; rfl
    apply OL.nx
    refine W.rt ?_
    refine At.finCT (b := b6) (cs := [.int .i64 0, .int .i64 0, .slice none 0 0, .pointer none]) rfl rfl (by exact mau) rfl rfl rfl (fun w' hw' => .inr (.inr (.inl ⟨hk0, by omega, h3, rfl, ?_⟩)))
    exact hw'.thin (.keep (.any (fun k hk => by rw [show k = b6 from hk]; exact hb6) (.any (fun k hk => by rw [show k = b5 from hk]; exact hb5) (.any (fun k hk => by rw [show k = b4 from hk]; exact hb4) Thin.same))))
  obtain ⟨n, hn⟩ : ∃ n : Nat, a0.n = (n : Int) := ⟨a0.n.toNat, by omega⟩
  refine OL.callE (α := Unit) (fun _ => .tuple #[]) (fun _ => True) (fun _ => Cls (blk bm 160 [.slice m.qF m.nF m.cF, .int .i64 m.main, .slice m.qs m.ns m.cs, .int .i64 (m.left - a0.n), .bool false, .bool m.ov, .slice m.qo m.no m.co, .int .i64 m.en, .int .i64 m.va] :: blk b6 198 [.int .i64 0, .int .i64 0, .slice none 0 0, .pointer none] :: blk b5 198 (pC a1) :: blk b4 198 (pC a0) :: H) S) rfl rfl (by exact Args.au) (fun w2 hw2 => (pay_ok bm m a0.n _ S w2 (by omega) (by omega) hl6 hw2.out3).mono fun e w3 h => ⟨(), h.1, trivial, by rw [← hsh]; exact h.2⟩) ?_
  intro _ _
  apply OL.nx
  apply W.seq
  apply W.sr
  apply omv; rfl; rfl
  apply oop; rfl; apply Pev.nil_ptr; rfl; exact yes
  apply ofa; rfl; rfl; rfl
  apply old; rfl; rfl; exact .head _; rfl; rfl
  apply OL.nx
  refine W.cond rfl (fun h => by simp at h) (fun _ => ?_)
  rw [hn]
  apply W.sk
  apply W.sr
  apply ofa; rfl; rfl; rfl
  apply old; rfl; rfl; apply List.Mem.tail; exact .tail _ (.tail _ (.head _)); rfl; rfl
  (apply OL.makeSliceK (f := pC) (x0 := zP) (m := n)); rfl; rfl; rfl; rfl; rfl; rfl; (exact hn); (exact hn); (omega)
  intro cb hcb
  have hcb0 := hcb.mem s0 hs0
  apply OL.alloc; rfl; rfl; exact CellsL.one rfl; (intro bk hbk; have hbk0 := hbk.mem s0 hs0)
  apply OL.storeB; rfl; rfl; exact CellsL.one rfl; rfl; rfl; rfl; exact Swap.au; exact Put.au
  apply OL.nx
  apply W.seq
  apply W.sr
  apply old; rfl; rfl; exact .head _; rfl; rfl
  apply oop; rfl; apply Pev.len_slice; rfl; exact yes; rfl
  apply omv; rfl; rfl
  apply OL.nx
  apply W.block
  revert hbk0
  revert bk
  intro bx hbx hbx0
  refine W.loop (G := Nat) (fun i => i ≤ n) (fun i => n - i)
    (fun i => [(5, true, .pointer (some ⟨b5, 0, none⟩)), (6, true, .pointer (some ⟨b6, 0, none⟩)), (8, true, .pointer (some ⟨bx, 0, none⟩)), (38, true, .int .i64 (n : Int)), (39, true, .int .i64 (i : Int))])
    (fun i => Cls (blk bx 191 [.slice (some ⟨cb, 0, none⟩) n n] :: blk cb 198 (cat pC (List.replicate i a1 ++ List.replicate (n - i) zP)) :: blk bm 160 [.slice m.qF m.nF m.cF, .int .i64 m.main, .slice m.qs m.ns m.cs, .int .i64 (m.left - n), .bool false, .bool m.ov, .slice m.qo m.no m.co, .int .i64 m.en, .int .i64 m.va] :: blk b6 198 [.int .i64 0, .int .i64 0, .slice none 0 0, .pointer none] :: blk b5 198 (pC a1) :: blk b4 198 (pC a0) :: H) S) 0 (by omega) (by exact Sub.au) (fun w' hw' => hw') ?_
  intro i hi
  apply W.sr
  apply obn; rfl; rfl; rfl; apply Bin.lss
  apply OL.nx
  apply W.seq
  (refine W.cnd (fun hlt => ?_) (fun hlt => ?_)) <;> (try (exfalso; first | omega | exact hlt trivial | contradiction))
  · have hil : i < n := by omega
    apply W.sk
    apply W.sb
    apply W.sr
    apply omv; rfl; rfl
    apply oas; rfl; rfl
    apply OL.nx
    apply W.reg
    apply old; rfl; rfl; exact .head _; rfl; rfl
    apply omv; rfl; rfl
    apply oop; rfl; apply Pev.load_blkA; rfl; exact yes; apply List.Mem.tail; apply List.Mem.tail; exact .tail _ (.tail _ (.head _)); rfl; exact Take.au
    apply oop; rfl; apply Pev.idxB; rfl; exact yes; rfl; exact yes; rfl; intro hcond; omega; rfl
    refine OL.storeL (vs := pC a1) (cs := cat pC (List.replicate i a1 ++ List.replicate (n - i) zP)) rfl rfl rfl rfl rfl rfl ⟨?_, rfl⟩ (by exact Swap.au) ?_
    · rw [cat_length (f := pC) (sz := 4) (fun _ => rfl)]
      simp [pC]
      omega
    rw [show 0 + (i : Int).toNat * 4 = i * 4 by omega, cat_set (f := pC) (sz := 4) (fun _ => rfl) (by omega) (by simp; omega)]
    apply OL.nil
    with_reducible apply At.in_normal
    with_reducible apply At.next
    apply W.reg
    apply obn; rfl; rfl; rfl; apply Bin.add_in; omega
    apply omv; rfl; rfl
    apply OL.nil
    refine At.again (i + 1) (by omega) (by omega) (by exact Sub.au) (fun w' hw' => ?_)
    have e : (List.replicate i a1 ++ List.replicate (n - i) zP).set i a1 = List.replicate (i + 1) a1 ++ List.replicate (n - (i + 1)) zP := by
      rw [List.set_append_right _ _ (by simp), List.length_replicate, Nat.sub_self, show n - i = (n - (i + 1)) + 1 by omega, List.replicate_succ, List.set_cons_zero, List.replicate_succ' (n := i), List.append_assoc]
      rfl
    rw [e] at hw'
    exact hw'
  · obtain rfl : i = n := by omega
    refine W.xt ?_
    with_reducible apply At.next
    apply W.sr
    apply oop; rfl; apply Pev.build; rfl; exact CellsL.agg; rfl; exact Fill.au; rfl
    apply OL.storeB; rfl; rfl; exact CellsL.agg; rfl; rfl; rfl; exact Swap.au; exact Put.au
    apply oas; rfl; rfl
    apply OL.nx
    apply W.ret
    refine At.finCT (b := b6) (cs := [.int .i64 3, .int .i64 0, .slice none 0 0, .pointer (some ⟨bx, 0, none⟩)]) rfl rfl (by exact mau) rfl rfl rfl (fun w' hw' => .inr (.inr (.inr ⟨hk0, by omega, by omega, bx, cb, ⟨hbx, hcb⟩, rfl, ?_⟩)))
    rw [Nat.sub_self, List.replicate_zero, List.append_nil] at hw'
    have h1 := hw'.thin (.keep (.keep (.keep (.any (fun k hk => by rw [show k = b6 from hk]; exact hb6) (.any (fun k hk => by rw [show k = b5 from hk]; exact hb5) (.any (fun k hk => by rw [show k = b4 from hk]; exact hb4) Thin.same))))))
    rw [Int.toNat_natCast]
    simp only [MS.c, hsh]
    exact h1
end Go.Proofs.Ytehelljmaiophaa.ss

/- The walks of ssa's machine: prints, checks, arrays. Conditions: none. -/
namespace Go.Ss
open Go.Eng Go.RowKit
theorem cat1C (a : PV) : cat pC [a] = [.int .i64 a.k, .int .i64 a.n, .slice a.q a.l.length a.cap, .pointer (if a.k = 3 then some ⟨a.b, 0, none⟩ else none)] := rfl
theorem cat2C (a b : PV) : cat pC [a, b] = [.int .i64 a.k, .int .i64 a.n, .slice a.q a.l.length a.cap, .pointer (if a.k = 3 then some ⟨a.b, 0, none⟩ else none), .int .i64 b.k, .int .i64 b.n, .slice b.q b.l.length b.cap, .pointer (if b.k = 3 then some ⟨b.b, 0, none⟩ else none)] := rfl
theorem cat3C (a b c : PV) : cat pC [a, b, c] = [.int .i64 a.k, .int .i64 a.n, .slice a.q a.l.length a.cap, .pointer (if a.k = 3 then some ⟨a.b, 0, none⟩ else none), .int .i64 b.k, .int .i64 b.n, .slice b.q b.l.length b.cap, .pointer (if b.k = 3 then some ⟨b.b, 0, none⟩ else none), .int .i64 c.k, .int .i64 c.n, .slice c.q c.l.length c.cap, .pointer (if c.k = 3 then some ⟨c.b, 0, none⟩ else none)] := rfl
theorem argArr {w : World} {b : Nat} {e : TypeId} {l : List PV} (hb : (blk b e (cat pC l)).holds w) (he : ∀ p ∈ l, PVO pF w (low w) p) : Arr (pvR pF) w (low w) (us l) (some ⟨b, 0, none⟩) := by
  refine arrBlk (R := pvR pF) (l := us l) (e := e) (by rw [cat_map]; exact hb) (fun p hp => ?_)
  obtain ⟨c, hc, rfl⟩ := List.mem_map.1 hp
  exact he c hc
end Go.Ss
namespace Go.Proofs.Ytehelljmaiophaa.ss
set_option maxRecDepth 100000
open Go.Eng Go.RowKit Go.Ss
structure XPri (S : List World) where
  bl : Nat
  hl : AllLe S bl
  g : Nat
  c : Nat
  O : Nat → Prop
  old : Nat → Value
theorem eff_print (bm : Nat) (i : Go.Ss.In) (iy : Sc) (hop : i.op = 15) (a0 : PV) (m : MS) (Oo : Nat → Prop) (B : Nat) (out : List Int) (hno : m.no = out.length) (hol : out.length ≤ 1000) (bt : Nat) (H : List Eng.Item) (S : List World) (s0 : World) (hs0 : s0 ∈ S) (hbs : ∃ s ∈ S, B ≤ s.heap.size) (w : World)
    (hc : Cls (blk bt 198 (cat pC [a0]) :: blk bm 160 m.c :: row B Oo m.qo m.no m.co 3 1 (ints out) :: H) S w) :
    Calls Try.prog 171 [.pointer (some ⟨bm, 0, none⟩), .agg (inC i iy).toArray, .slice (some ⟨bt, 0, none⟩) 1 1].toArray w fun e w' =>
      (a0.k ≠ 0 ∧ e = .returned (.tuple #[.agg (pC zP).toArray, .int .i64 5]) ∧ Cls (blk bt 198 (cat pC [a0]) :: blk bm 160 m.c :: row B Oo m.qo m.no m.co 3 1 (ints out) :: H) S w') ∨ (a0.k = 0 ∧ out.length = 1000 ∧ e = .returned (.tuple #[.agg (pC zP).toArray, .int .i64 6]) ∧ Cls (blk bt 198 (cat pC [a0]) :: blk bm 160 m.c :: row B Oo m.qo m.no m.co 3 1 (ints out) :: H) S w') ∨
      (a0.k = 0 ∧ out.length ≠ 1000 ∧ e = .returned (.tuple #[.agg (pC zP).toArray, .int .i64 0]) ∧ ∃ (O' : Nat → Prop) (q' : Option Addr) (c' : Nat), Cls (blk bt 198 (cat pC [a0]) :: blk bm 160 { m with qo := q', no := m.no + 1, co := c' }.c :: row B O' q' (m.no + 1) c' 3 1 (ints (out ++ [a0.n])) :: H) S w') := by
  rw [cat1C] at hc ⊢
  refine enter Try.func171 rfl Try.ntmps171 rfl hc ?_
  (simp only [argEnv, Nat.zero_add, Nat.reduceAdd])
  unfold inC
  apply W.sr
  apply OL.box; rfl; rfl; exact CellsL.agg; (intro bk hbk; have hbk0 := hbk.mem s0 hs0)
  apply OL.alloc; rfl; rfl; exact CellsL.agg; (intro bk hbk; have hbk0 := hbk.mem s0 hs0)
  apply oas; rfl; rfl
  apply OL.nx
  apply W.seq
  apply W.sr
  apply ofa; rfl; rfl; rfl
  apply old; rfl; rfl; exact .tail _ (.head _); rfl; rfl
  apply OL.nx
  apply W.block
  apply W.sr
  apply obn; rfl; rfl; rfl; apply Bin.eql
  apply oas; rfl; rfl
  apply OL.nx
  rename_i b4 hb4 hb40
  revert hbk0
  revert bk
  intro b6 hb6 hb60
  (refine W.cnd (fun s1 => ?_) (fun s1 => ?_)) <;> (try (exfalso; first | omega | exact s1 trivial | contradiction))
  apply W.seq
  apply W.sr
  apply omv; rfl; rfl
  apply oop; rfl; apply Pev.idxB; rfl; exact yes; rfl; exact yes; rfl; intro hcond; omega; rfl
  apply ofa; rfl; rfl; rfl
  apply old; rfl; rfl; exact .tail _ (.tail _ (.head _)); rfl; rfl
  apply obn; rfl; rfl; rfl; apply Bin.neq
  apply OL.nx
  (refine W.cnd (fun s2 => ?_) (fun s2 => ?_)) <;> (try (exfalso; first | omega | exact s2 trivial | contradiction))
  · apply W.sr
    apply oop; rfl; apply Pev.build; rfl; exact CellsL.agg; rfl; exact Fill.au; rfl
    apply OL.storeB; rfl; rfl; exact CellsL.agg; rfl; rfl; rfl; exact Swap.au; exact Put.au
    apply oas; rfl; rfl
    apply OL.nx
    refine W.rt ?_
    exact At.finCT (b := b6) (cs := [.int .i64 0, .int .i64 0, .slice none 0 0, .pointer none]) rfl rfl (by exact mau) rfl rfl rfl (fun w' hw' => .inl ⟨s2, rfl, hw'.thin (.any (fun k hk => by rw [show k = b6 from hk]; exact hb6) (.any (fun k hk => by rw [show k = b4 from hk]; exact hb4) Thin.same))⟩)
  apply W.sk
  apply W.seq
  apply W.sr
  apply omv; rfl; rfl
  apply oop; rfl; apply Pev.nil_ptr; rfl; exact yes
  apply ofa; rfl; rfl; rfl
  apply ofa; rfl; rfl; rfl
  apply old; rfl; rfl; apply List.Mem.tail; exact .tail _ (.tail _ (.head _)); rfl; rfl
  apply oop; rfl; apply Pev.len_slice; rfl; exact yes; rfl
  apply obn; rfl; rfl; rfl; apply Bin.eql
  apply OL.nx
  have hk0 : a0.k = 0 := by omega
  (refine W.cnd (fun s3 => ?_) (fun s3 => ?_)) <;> (try (exfalso; first | omega | exact s3 trivial | contradiction))
  · apply W.sr
    apply oop; rfl; apply Pev.build; rfl; exact CellsL.agg; rfl; exact Fill.au; rfl
    apply OL.storeB; rfl; rfl; exact CellsL.agg; rfl; rfl; rfl; exact Swap.au; exact Put.au
    apply oas; rfl; rfl
    apply OL.nx
    refine W.rt ?_
    exact At.finCT (b := b6) (cs := [.int .i64 0, .int .i64 0, .slice none 0 0, .pointer none]) rfl rfl (by exact mau) rfl rfl rfl (fun w' hw' => .inr (.inl ⟨hk0, by omega, rfl, hw'.thin (.any (fun k hk => by rw [show k = b6 from hk]; exact hb6) (.any (fun k hk => by rw [show k = b4 from hk]; exact hb4) Thin.same))⟩))
  apply W.sk
  apply W.seq
  refine W.regany (X := XPri S) (fun x e => [(42, true, bif e 14 then .pointer (some ⟨bm, 0 + 6 + 0, none⟩) else x.old 42), (41, true, bif e 13 then .pointer (some ⟨bm, 0 + 6, none⟩) else x.old 41), (40, true, bif e 12 then .pointer (some ⟨bm, 0, none⟩) else x.old 40), (39, true, bif e 11 then .slice (some ⟨x.g, 0, none⟩) (m.no + 1) x.c else x.old 39), (38, true, bif e 10 then .slice (some ⟨x.bl, 0, none⟩) 1 1 else x.old 38), (37, true, bif e 9 then .int .i64 a0.n else x.old 37), (36, true, bif e 8 then .pointer (some ⟨bt, 0 + Int.toNat 0 * 4 + 1, none⟩) else x.old 36), (35, true, bif e 7 then .pointer (some ⟨bt, 0 + Int.toNat 0 * 4, none⟩) else x.old 35), (34, true, bif e 6 then .slice (some ⟨bt, 0, none⟩) 1 1 else x.old 34), (33, true, bif e 5 then .slice m.qo m.no m.co else x.old 33), (32, true, bif e 4 then .pointer (some ⟨bm, 0 + 6 + 0, none⟩) else x.old 32), (31, true, bif e 3 then .pointer (some ⟨bm, 0 + 6, none⟩) else x.old 31), (30, true, bif e 2 then .pointer (some ⟨bm, 0, none⟩) else x.old 30), (29, true, bif e 1 then .pointer (some ⟨bm, 0, none⟩) else x.old 29), (28, true, bif e 0 then .pointer (some ⟨bm, 0, none⟩) else x.old 28), (0, true, .pointer (some ⟨bm, 0, none⟩)), (2, true, .slice (some ⟨bt, 0, none⟩) 1 1), (4, true, .pointer (some ⟨b4, 0, none⟩)), (6, true, .pointer (some ⟨b6, 0, none⟩)), (7, true, .int .i64 0)])
    (fun x e => (bif e 10 then blk x.bl 3 [.int .i64 a0.n] else nothing) :: (blk b6 198 [.int .i64 0, .int .i64 0, .slice none 0 0, .pointer none]) :: (blk b4 85 [.int .i64 i.to_, .int .i64 i.op, .int .i64 i.n, .slice iy.1 i.args.length iy.2]) :: (blk bt 198 [.int .i64 a0.k, .int .i64 a0.n, .slice a0.q a0.l.length a0.cap, .pointer (if a0.k = 3 then some ⟨a0.b, 0, none⟩ else none)]) :: (bif e 15 then blk bm 160 [.slice m.qF m.nF m.cF, .int .i64 m.main, .slice m.qs m.ns m.cs, .int .i64 m.left, .bool m.sh, .bool m.ov, .slice (some ⟨x.g, 0, none⟩) (m.no + 1) x.c, .int .i64 m.en, .int .i64 m.va] else blk bm 160 m.c) :: (bif e 11 then row B x.O (some ⟨x.g, 0, none⟩) (m.no + 1) x.c 3 1 (ints out ++ [.int .i64 a0.n]) else row B Oo m.qo m.no m.co 3 1 (ints out)) :: H)
    (fun old => ⟨b6, hb6, 0, 0, fun _ => False, old⟩) (by kernel_rfl) (by kernel_rfl) (fun w hw => hw.drew) (fun old => by repeat (first | exact SubO.nil | apply SubO.cons rfl | refine SubO.old rfl ?_)) (fun old w' hw' => hw'.nothing_in) ?_ ?_
  · intro x e i o ho hei hd hcl
    have hi : i < 16 := (List.getElem?_eq_some_iff.1 ho).1
    obtain rfl | rfl | rfl | rfl | rfl | rfl | rfl | rfl | rfl | rfl | rfl | rfl | rfl | rfl | rfl | rfl : i = 0 ∨ i = 1 ∨ i = 2 ∨ i = 3 ∨ i = 4 ∨ i = 5 ∨ i = 6 ∨ i = 7 ∨ i = 8 ∨ i = 9 ∨ i = 10 ∨ i = 11 ∨ i = 12 ∨ i = 13 ∨ i = 14 ∨ i = 15 := by omega
    · cases ho
      have v0 : Eng.upd e 0 0 = true := upd_eq
      simp only [hei, cond_true, cond_false]
      apply omv; rfl; rfl
      apply OL.nil
      exact At.beside x (by repeat (first | exact Sub.nil | apply Sub.cons rfl | refine Sub.cons_eq rfl (by simp only [v0, cond_true, cond_false]) ?_)) (fun w' hw' => by first | exact hw' | (simp only [v0, cond_true, cond_false]; exact hw'))
    · cases ho
      have v1 : Eng.upd e 1 1 = true := upd_eq
      simp only [hei, cond_true, cond_false]
      apply omv; rfl; rfl
      apply OL.nil
      exact At.beside x (by repeat (first | exact Sub.nil | apply Sub.cons rfl | refine Sub.cons_eq rfl (by simp only [v1, cond_true, cond_false]) ?_)) (fun w' hw' => by first | exact hw' | (simp only [v1, cond_true, cond_false]; exact hw'))
    · cases ho
      have h1 : e 1 = true := hd ⟨1, .data⟩ (by simp) rfl
      have v2 : Eng.upd e 2 2 = true := upd_eq
      have v1 : Eng.upd e 2 1 = true := upd_mono h1
      simp only [hei, h1, cond_true, cond_false]
      apply oop; rfl; apply Pev.nil_ptr; rfl; exact yes
      apply OL.nil
      exact At.beside x (by repeat (first | exact Sub.nil | apply Sub.cons rfl | refine Sub.cons_eq rfl (by simp only [v2, v1, cond_true, cond_false]) ?_)) (fun w' hw' => by first | exact hw' | (simp only [v2, v1, cond_true, cond_false]; exact hw'))
    · cases ho
      have h2 : e 2 = true := hd ⟨2, .data⟩ (by simp) rfl
      have v3 : Eng.upd e 3 3 = true := upd_eq
      have v2 : Eng.upd e 3 2 = true := upd_mono h2
      simp only [hei, h2, cond_true, cond_false]
      apply ofa; rfl; rfl; rfl
      apply OL.nil
      exact At.beside x (by repeat (first | exact Sub.nil | apply Sub.cons rfl | refine Sub.cons_eq rfl (by simp only [v3, v2, cond_true, cond_false]) ?_)) (fun w' hw' => by first | exact hw' | (simp only [v3, v2, cond_true, cond_false]; exact hw'))
    · cases ho
      have h3 : e 3 = true := hd ⟨3, .data⟩ (by simp) rfl
      have v4 : Eng.upd e 4 4 = true := upd_eq
      have v3 : Eng.upd e 4 3 = true := upd_mono h3
      simp only [hei, h3, cond_true, cond_false]
      apply ofa; rfl; rfl; rfl
      apply OL.nil
      exact At.beside x (by repeat (first | exact Sub.nil | apply Sub.cons rfl | refine Sub.cons_eq rfl (by simp only [v4, v3, cond_true, cond_false]) ?_)) (fun w' hw' => by first | exact hw' | (simp only [v4, v3, cond_true, cond_false]; exact hw'))
    · cases ho
      have h4 : e 4 = true := hd ⟨4, .data⟩ (by simp) rfl
      have h15 : e 15 = false := hcl.not (i := 5) (j := 15) rfl hei (by kernel_rfl)
      have v5 : Eng.upd e 5 5 = true := upd_eq
      have v4 : Eng.upd e 5 4 = true := upd_mono h4
      have v15 : Eng.upd e 5 15 = false := h15
      simp only [hei, h4, h15, cond_true, cond_false]
      apply old; rfl; rfl; apply List.Mem.tail; apply List.Mem.tail; exact .tail _ (.tail _ (.head _)); rfl; rfl
      apply OL.nil
      exact At.beside x (by repeat (first | exact Sub.nil | apply Sub.cons rfl | refine Sub.cons_eq rfl (by simp only [v5, v4, v15, cond_true, cond_false]) ?_)) (fun w' hw' => by first | exact hw' | (simp only [v5, v4, v15, cond_true, cond_false]; exact hw'))
    · cases ho
      have v6 : Eng.upd e 6 6 = true := upd_eq
      simp only [hei, cond_true, cond_false]
      apply omv; rfl; rfl
      apply OL.nil
      exact At.beside x (by repeat (first | exact Sub.nil | apply Sub.cons rfl | refine Sub.cons_eq rfl (by simp only [v6, cond_true, cond_false]) ?_)) (fun w' hw' => by first | exact hw' | (simp only [v6, cond_true, cond_false]; exact hw'))
    · cases ho
      have h6 : e 6 = true := hd ⟨6, .data⟩ (by simp) rfl
      have v7 : Eng.upd e 7 7 = true := upd_eq
      have v6 : Eng.upd e 7 6 = true := upd_mono h6
      simp only [hei, h6, cond_true, cond_false]
      apply oop; rfl; apply Pev.idxB; rfl; exact yes; rfl; exact yes; rfl; intro hcond; omega; rfl
      apply OL.nil
      exact At.beside x (by repeat (first | exact Sub.nil | apply Sub.cons rfl | refine Sub.cons_eq rfl (by simp only [v7, v6, cond_true, cond_false]) ?_)) (fun w' hw' => by first | exact hw' | (simp only [v7, v6, cond_true, cond_false]; exact hw'))
    · cases ho
      have h7 : e 7 = true := hd ⟨7, .data⟩ (by simp) rfl
      have v8 : Eng.upd e 8 8 = true := upd_eq
      have v7 : Eng.upd e 8 7 = true := upd_mono h7
      simp only [hei, h7, cond_true, cond_false]
      apply ofa; rfl; rfl; rfl
      apply OL.nil
      exact At.beside x (by repeat (first | exact Sub.nil | apply Sub.cons rfl | refine Sub.cons_eq rfl (by simp only [v8, v7, cond_true, cond_false]) ?_)) (fun w' hw' => by first | exact hw' | (simp only [v8, v7, cond_true, cond_false]; exact hw'))
    · cases ho
      have h8 : e 8 = true := hd ⟨8, .data⟩ (by simp) rfl
      have v9 : Eng.upd e 9 9 = true := upd_eq
      have v8 : Eng.upd e 9 8 = true := upd_mono h8
      simp only [hei, h8, cond_true, cond_false]
      apply old; rfl; rfl; apply List.Mem.tail; exact .tail _ (.tail _ (.head _)); rfl; rfl
      apply OL.nil
      exact At.beside x (by repeat (first | exact Sub.nil | apply Sub.cons rfl | refine Sub.cons_eq rfl (by simp only [v9, v8, cond_true, cond_false]) ?_)) (fun w' hw' => by first | exact hw' | (simp only [v9, v8, cond_true, cond_false]; exact hw'))
    · cases ho
      have h9 : e 9 = true := hd ⟨9, .data⟩ (by simp) rfl
      have h11 : e 11 = false := hcl.not (i := 10) (j := 11) rfl hei (by kernel_rfl)
      have v10 : Eng.upd e 10 10 = true := upd_eq
      have v9 : Eng.upd e 10 9 = true := upd_mono h9
      have v11 : Eng.upd e 10 11 = false := h11
      simp only [hei, h9, h11, cond_true, cond_false]
      apply OL.buildSlice; rfl; rfl; rfl; exact Elems.au; rfl; rfl; (intro bk hbk; have hbk0 := hbk.mem s0 hs0)
      apply OL.nil
      exact At.beside { x with bl := bk, hl := hbk } (by repeat (first | exact Sub.nil | apply Sub.cons rfl | refine Sub.cons_eq rfl (by simp only [v10, v9, v11, cond_true, cond_false]) ?_)) (fun w' hw' => by simp only [v10, v9, v11, cond_true, cond_false]; exact Cls.fill (p := 0) (H := _) .z hw')
    · cases ho
      have h5 : e 5 = true := hd ⟨5, .data⟩ (by simp) rfl
      have h10 : e 10 = true := hd ⟨10, .data⟩ (by simp) rfl
      have h15 : e 15 = false := hcl.not (i := 11) (j := 15) rfl hei (by kernel_rfl)
      have v11 : Eng.upd e 11 11 = true := upd_eq
      have v5 : Eng.upd e 11 5 = true := upd_mono h5
      have v10 : Eng.upd e 11 10 = true := upd_mono h10
      have v15 : Eng.upd e 11 15 = false := h15
      simp only [hei, h5, h10, h15, cond_true, cond_false]
      have hx9 := x.hl
      apply OL.append; rfl; rfl; rfl; rfl; exact Hole.au; exact .head _; exact Take.au; rfl; rfl; assumption; omega; intro O1 g1 cap1
      apply OL.nil
      exact At.beside { x with g := g1, c := cap1, O := O1 } (by repeat (first | exact Sub.nil | apply Sub.cons rfl | refine Sub.cons_eq rfl (by simp only [v11, v5, v10, v15, cond_true, cond_false]) ?_)) (fun w' hw' => by first | exact hw' | (simp only [v11, v5, v10, v15, cond_true, cond_false]; exact hw'))
    · cases ho
      have h0 : e 0 = true := hd ⟨0, .data⟩ (by simp) rfl
      have v12 : Eng.upd e 12 12 = true := upd_eq
      have v0 : Eng.upd e 12 0 = true := upd_mono h0
      simp only [hei, h0, cond_true, cond_false]
      apply oop; rfl; apply Pev.nil_ptr; rfl; exact yes
      apply OL.nil
      exact At.beside x (by repeat (first | exact Sub.nil | apply Sub.cons rfl | refine Sub.cons_eq rfl (by simp only [v12, v0, cond_true, cond_false]) ?_)) (fun w' hw' => by first | exact hw' | (simp only [v12, v0, cond_true, cond_false]; exact hw'))
    · cases ho
      have h12 : e 12 = true := hd ⟨12, .data⟩ (by simp) rfl
      have v13 : Eng.upd e 13 13 = true := upd_eq
      have v12 : Eng.upd e 13 12 = true := upd_mono h12
      simp only [hei, h12, cond_true, cond_false]
      apply ofa; rfl; rfl; rfl
      apply OL.nil
      exact At.beside x (by repeat (first | exact Sub.nil | apply Sub.cons rfl | refine Sub.cons_eq rfl (by simp only [v13, v12, cond_true, cond_false]) ?_)) (fun w' hw' => by first | exact hw' | (simp only [v13, v12, cond_true, cond_false]; exact hw'))
    · cases ho
      have h13 : e 13 = true := hd ⟨13, .data⟩ (by simp) rfl
      have v14 : Eng.upd e 14 14 = true := upd_eq
      have v13 : Eng.upd e 14 13 = true := upd_mono h13
      simp only [hei, h13, cond_true, cond_false]
      apply ofa; rfl; rfl; rfl
      apply OL.nil
      exact At.beside x (by repeat (first | exact Sub.nil | apply Sub.cons rfl | refine Sub.cons_eq rfl (by simp only [v14, v13, cond_true, cond_false]) ?_)) (fun w' hw' => by first | exact hw' | (simp only [v14, v13, cond_true, cond_false]; exact hw'))
    · cases ho
      have h11 : e 11 = true := hd ⟨11, .data⟩ (by simp) rfl
      have h14 : e 14 = true := hd ⟨14, .data⟩ (by simp) rfl
      have v15 : Eng.upd e 15 15 = true := upd_eq
      have v11 : Eng.upd e 15 11 = true := upd_mono h11
      have v14 : Eng.upd e 15 14 = true := upd_mono h14
      simp only [hei, h11, h14, cond_true, cond_false]
      apply OL.storeB; rfl; rfl; exact CellsL.one rfl; rfl; rfl; rfl; exact Swap.au; exact Put.au
      apply OL.nil
      exact At.beside x (by repeat (first | exact Sub.nil | apply Sub.cons rfl | refine Sub.cons_eq rfl (by simp only [v15, v11, v14, cond_true, cond_false]) ?_)) (fun w' hw' => by first | exact hw' | (simp only [v15, v11, v14, cond_true, cond_false]; exact hw'))
  · intro x e hall
    obtain ⟨bl, hbl, g, c1, O1, old⟩ := x
    simp only [hall 0 (by decide), hall 1 (by decide), hall 2 (by decide), hall 3 (by decide), hall 4 (by decide), hall 5 (by decide), hall 6 (by decide), hall 7 (by decide), hall 8 (by decide), hall 9 (by decide), hall 10 (by decide), hall 11 (by decide), hall 12 (by decide), hall 13 (by decide), hall 14 (by decide), hall 15 (by decide), cond_true, cond_false]
    with_reducible apply At.next
    apply W.sr
    (((first | (with_reducible apply OL.op) | (with_reducible apply QL.op)); (exact Guard.au); rfl; rfl); (exact Pev.call rfl (by exact Args.au) (fun _ w2 hw2 => (wordOf_calls _ w2).mono (fun e w3 h => ⟨h.1, hw2.ext h.2⟩))))
    apply OL.storeB; rfl; rfl; exact CellsL.agg; rfl; rfl; rfl; exact Swap.au; exact Put.au
    apply oas; rfl; rfl
    apply OL.nx
    refine W.rt ?_
    exact At.finCT (b := b6) (cs := [.int .i64 0, .int .i64 0, .slice none 0 0, .pointer none]) rfl rfl (by exact mau) rfl rfl rfl (fun w' hw' => .inr (.inr ⟨hk0, by omega, rfl, O1, some ⟨g, 0, none⟩, c1, by
      rw [ints_append]
      exact hw'.thin (.any (fun k hk => by rw [show k = bl from hk]; exact hbl) (.any (fun k hk => by rw [show k = b6 from hk]; exact hb6) (.any (fun k hk => by rw [show k = b4 from hk]; exact hb4) Thin.same)))⟩))
theorem eff_check (bm : Nat) (i : Go.Ss.In) (iy : Sc) (hop : i.op = 18) (a0 a1 : PV) (bt : Nat) (H : List Eng.Item) (S : List World) (s0 : World) (hs0 : s0 ∈ S) (hok : ∀ w2, Cls (blk bt 198 (cat pC [a0, a1]) :: H) S w2 → ∀ p ∈ [a0, a1], PVO pF w2 (low w2) p) (w : World)
    (hc : Cls (blk bt 198 (cat pC [a0, a1]) :: H) S w) :
    Calls Try.prog 171 [.pointer (some ⟨bm, 0, none⟩), .agg (inC i iy).toArray, .slice (some ⟨bt, 0, none⟩) 2 2].toArray w fun e w' =>
      ((a0.k ≠ 0 ∨ a1.k ≠ 0) ∧ e = .returned (.tuple #[.agg (pC zP).toArray, .int .i64 5]) ∧ Cls (blk bt 198 (cat pC [a0, a1]) :: H) S w') ∨ (a0.k = 0 ∧ a1.k = 0 ∧ (a0.n < 0 ∨ a1.n ≤ a0.n) ∧ e = .returned (.tuple #[.agg (pC zP).toArray, .int .i64 2]) ∧ Cls (blk bt 198 (cat pC [a0, a1]) :: H) S w') ∨ (a0.k = 0 ∧ a1.k = 0 ∧ ¬ (a0.n < 0 ∨ a1.n ≤ a0.n) ∧ e = .returned (.tuple #[.agg (pC zP).toArray, .int .i64 0]) ∧ Cls (blk bt 198 (cat pC [a0, a1]) :: H) S w') := by
  rw [cat2C] at hc hok ⊢
  refine enter Try.func171 rfl Try.ntmps171 rfl hc ?_
  (simp only [argEnv, Nat.zero_add, Nat.reduceAdd])
  unfold inC
  apply W.sr
  apply OL.box; rfl; rfl; exact CellsL.agg; (intro bk hbk; have hbk0 := hbk.mem s0 hs0)
  apply OL.alloc; rfl; rfl; exact CellsL.agg; (intro bk hbk; have hbk0 := hbk.mem s0 hs0)
  apply oas; rfl; rfl
  apply OL.nx
  apply W.seq
  apply W.sr
  apply ofa; rfl; rfl; rfl
  apply old; rfl; rfl; exact .tail _ (.head _); rfl; rfl
  apply OL.nx
  apply W.block
  apply W.sr
  apply obn; rfl; rfl; rfl; apply Bin.eql
  apply oas; rfl; rfl
  apply OL.nx
  rename_i b4 hb4 hb40
  revert hbk0
  revert bk
  intro b6 hb6 hb60
  (refine W.cnd (fun s1 => ?_) (fun s1 => ?_)) <;> (try (exfalso; first | omega | exact s1 trivial | contradiction))
  apply W.sr
  apply obn; rfl; rfl; rfl; apply Bin.eql
  apply oas; rfl; rfl
  apply OL.nx
  (refine W.cnd (fun s2 => ?_) (fun s2 => ?_)) <;> (try (exfalso; first | omega | exact s2 trivial | contradiction))
  apply W.sr
  apply obn; rfl; rfl; rfl; apply Bin.eql
  apply oas; rfl; rfl
  apply OL.nx
  (refine W.cnd (fun s3 => ?_) (fun s3 => ?_)) <;> (try (exfalso; first | omega | exact s3 trivial | contradiction))
  apply W.seq
  apply W.sr
  apply omv; rfl; rfl
  (((first | (with_reducible apply OL.op) | (with_reducible apply QL.op)); (exact Guard.au); rfl; rfl); (exact Pev.call (v := .bool (decide (a0.k = 0) && decide (a1.k = 0))) rfl (by exact Args.au) (fun _ w2 hw2 => (all_calls [a0, a1] (some ⟨bt, 0, none⟩) 2 0 w2 (by simp) (argArr (hw2.item (.tail _ (.tail _ (.head _)))) (hok w2 (hw2.thin (.any (fun k hk => by rw [show k = b6 from hk]; exact hb6) (.any (fun k hk => by rw [show k = b4 from hk]; exact hb4) Thin.same)))))).mono (fun e w3 h => ⟨by rw [h.1]; simp, hw2.ext h.2⟩))))
  apply oop; rfl; apply Pev.not; rfl; exact yes
  apply OL.nx
  by_cases h1 : a0.k = 0 ∧ a1.k = 0
  · refine W.cond rfl (fun h => by simp at h; omega) (fun _ => ?_)
    apply W.sk
    apply W.seq
    apply W.seq
    apply W.regd0; decide +kernel; kernel_rfl; decide +kernel; exact fun w hw => hw.drew
    apply qmv; rfl; rfl
    apply qop; rfl; apply Pev.idxB; rfl; exact yes; rfl; exact yes; rfl; intro hcond; omega; rfl
    apply qfa; rfl; rfl; rfl
    apply qld; rfl; rfl; exact .tail _ (.tail _ (.head _)); rfl; rfl
    apply qbn; rfl; rfl; rfl; apply Bin.lss
    apply qmv; rfl; rfl
    apply qno; rfl; rfl; rfl; apply Pev.move; rfl; exact yes
    apply qno; rfl; rfl; rfl; apply Pev.idxB; rfl; exact fun h => h; rfl; exact yes; rfl; intro hcond; omega; rfl
    apply qno; rfl; rfl; rfl; apply Pev.fld; rfl; exact fun h => h; rfl
    apply qno; rfl; rfl; rfl; apply Pev.load_blk; rfl; exact fun h => h; exact .tail _ (.tail _ (.head _)); rfl; rfl
    apply qno; rfl; rfl; rfl; apply Pev.move; rfl; exact yes
    apply qno; rfl; rfl; rfl; apply Pev.idxB; rfl; exact fun h => h; rfl; exact yes; rfl; intro hcond; omega; rfl
    apply qno; rfl; rfl; rfl; apply Pev.fld; rfl; exact fun h => h; rfl
    apply qno; rfl; rfl; rfl; apply Pev.load_blk; rfl; exact fun h => h; exact .tail _ (.tail _ (.head _)); rfl; rfl
    apply qno; rfl; rfl; rfl; apply Pev.bin; rfl; exact fun h => h; rfl; exact fun h => h; intro hcond; apply Bin.geq
    apply qop; rfl; apply Pev.pick_or; rfl; exact yes; rfl; exact fun h => h
    apply QL.nil
    with_reducible apply At.next
    by_cases h2 : a0.n < 0 ∨ a1.n ≤ a0.n
    · refine W.cond rfl (fun _ => ?_) (fun h => by simp at h; omega)
      apply W.sr
      apply oop; rfl; apply Pev.build; rfl; exact CellsL.agg; rfl; exact Fill.au; rfl
      apply OL.storeB; rfl; rfl; exact CellsL.agg; rfl; rfl; rfl; exact Swap.au; exact Put.au
      apply oas; rfl; rfl
      apply OL.nx
      refine W.rt ?_
      exact At.finCT (b := b6) (cs := [.int .i64 0, .int .i64 0, .slice none 0 0, .pointer none]) rfl rfl (by exact mau) rfl rfl rfl (fun w' hw' => .inr (.inl ⟨h1.1, h1.2, h2, rfl, hw'.thin (.any (fun k hk => by rw [show k = b6 from hk]; exact hb6) (.any (fun k hk => by rw [show k = b4 from hk]; exact hb4) Thin.same))⟩))
    · refine W.cond rfl (fun h => by simp at h; omega) (fun _ => ?_)
      apply W.sk
      apply W.sr
      (((first | (with_reducible apply OL.op) | (with_reducible apply QL.op)); (exact Guard.au); rfl; rfl); (exact Pev.call rfl (by exact Args.au) (fun _ w2 hw2 => (wordOf_calls _ w2).mono (fun e w3 h => ⟨h.1, hw2.ext h.2⟩))))
      apply OL.storeB; rfl; rfl; exact CellsL.agg; rfl; rfl; rfl; exact Swap.au; exact Put.au
      apply oas; rfl; rfl
      apply OL.nx
      refine W.rt ?_
      exact At.finCT (b := b6) (cs := [.int .i64 0, .int .i64 0, .slice none 0 0, .pointer none]) rfl rfl (by exact mau) rfl rfl rfl (fun w' hw' => .inr (.inr ⟨h1.1, h1.2, h2, rfl, hw'.thin (.any (fun k hk => by rw [show k = b6 from hk]; exact hb6) (.any (fun k hk => by rw [show k = b4 from hk]; exact hb4) Thin.same))⟩))
  · refine W.cond rfl (fun _ => ?_) (fun h => by simp at h; omega)
    apply W.sr
    apply oop; rfl; apply Pev.build; rfl; exact CellsL.agg; rfl; exact Fill.au; rfl
    apply OL.storeB; rfl; rfl; exact CellsL.agg; rfl; rfl; rfl; exact Swap.au; exact Put.au
    apply oas; rfl; rfl
    apply OL.nx
    refine W.rt ?_
    exact At.finCT (b := b6) (cs := [.int .i64 0, .int .i64 0, .slice none 0 0, .pointer none]) rfl rfl (by exact mau) rfl rfl rfl (fun w' hw' => .inl ⟨by omega, rfl, hw'.thin (.any (fun k hk => by rw [show k = b6 from hk]; exact hb6) (.any (fun k hk => by rw [show k = b4 from hk]; exact hb4) Thin.same))⟩)
theorem eff_bad1 (bm : Nat) (i : Go.Ss.In) (iy : Sc) (hop : i.op = 17) (a0 : PV) (hbad : a0.k ≠ 3) (bt : Nat) (H : List Eng.Item) (S : List World) (s0 : World) (hs0 : s0 ∈ S) (w : World)
    (hc : Cls (blk bt 198 (cat pC [a0]) :: H) S w) :
    Calls Try.prog 171 [.pointer (some ⟨bm, 0, none⟩), .agg (inC i iy).toArray, .slice (some ⟨bt, 0, none⟩) 1 1].toArray w fun e w' =>
      e = .returned (.tuple #[.agg (pC zP).toArray, .int .i64 5]) ∧ Cls (blk bt 198 (cat pC [a0]) :: H) S w' := by
  rw [cat1C] at hc ⊢
  refine enter Try.func171 rfl Try.ntmps171 rfl hc ?_
  (simp only [argEnv, Nat.zero_add, Nat.reduceAdd])
  unfold inC
  apply W.sr
  apply OL.box; rfl; rfl; exact CellsL.agg; (intro bk hbk; have hbk0 := hbk.mem s0 hs0)
  apply OL.alloc; rfl; rfl; exact CellsL.agg; (intro bk hbk; have hbk0 := hbk.mem s0 hs0)
  apply oas; rfl; rfl
  apply OL.nx
  apply W.seq
  apply W.sr
  apply ofa; rfl; rfl; rfl
  apply old; rfl; rfl; exact .tail _ (.head _); rfl; rfl
  apply OL.nx
  apply W.block
  apply W.sr
  apply obn; rfl; rfl; rfl; apply Bin.eql
  apply oas; rfl; rfl
  apply OL.nx
  rename_i b4 hb4 hb40
  revert hbk0
  revert bk
  intro b6 hb6 hb60
  (refine W.cnd (fun s1 => ?_) (fun s1 => ?_)) <;> (try (exfalso; first | omega | exact s1 trivial | contradiction))
  apply W.sr
  apply obn; rfl; rfl; rfl; apply Bin.eql
  apply oas; rfl; rfl
  apply OL.nx
  (refine W.cnd (fun s2 => ?_) (fun s2 => ?_)) <;> (try (exfalso; first | omega | exact s2 trivial | contradiction))
  apply W.sr
  apply obn; rfl; rfl; rfl; apply Bin.eql
  apply oas; rfl; rfl
  apply OL.nx
  (refine W.cnd (fun s3 => ?_) (fun s3 => ?_)) <;> (try (exfalso; first | omega | exact s3 trivial | contradiction))
  apply W.skip
  with_reducible apply At.in_normal
  with_reducible apply At.next
  apply W.seq
  apply W.sr
  apply omv; rfl; rfl
  apply oop; rfl; apply Pev.idxB; rfl; exact yes; rfl; exact yes; rfl; intro hcond; omega; rfl
  apply ofa; rfl; rfl; rfl
  apply old; rfl; rfl; exact .tail _ (.tail _ (.head _)); rfl; rfl
  apply obn; rfl; rfl; rfl; apply Bin.neq
  apply omv; rfl; rfl
  apply ono; rfl; rfl; rfl; apply Pev.fld; rfl; exact yes; rfl
  apply ono; rfl; rfl; rfl; apply Pev.load_blk; rfl; exact fun h => h; exact .tail _ (.head _); rfl; rfl
  apply ono; rfl; rfl; rfl; apply Pev.bin; rfl; exact fun h => h; rfl; exact yes; intro hcond; apply Bin.neq
  apply ono; rfl; rfl; rfl; apply Pev.move; rfl; exact fun h => h
  apply OL.op; exact Guard.cyes rfl rfl; rfl; rfl; apply Pev.move; rfl; exact yes
  apply OL.op; exact Guard.cyes rfl rfl; rfl; rfl; apply Pev.idxB; rfl; exact fun h => h; rfl; exact yes; rfl; intro hcond; (simp only [Bool.and_eq_true, Bool.or_eq_true, Bool.not_eq_true', decide_eq_true_eq, decide_eq_false_iff_not] at hcond; omega); rfl
  apply OL.op; exact Guard.cyes rfl rfl; rfl; rfl; apply Pev.fld; rfl; exact fun h => h; rfl
  apply OL.gateOff; exact Guard.cyes rfl rfl; (simp; omega); rfl
  apply OL.gateOff; exact Guard.cyes rfl rfl; (simp; omega); rfl
  apply ono; rfl; rfl; rfl; apply Pev.pick_off; rfl; exact fun h => h; (intro hcond; simp; omega); rfl; exact yes
  apply oop; rfl; apply Pev.pick_or; rfl; exact yes; rfl; exact fun h => h
  apply OL.nx
  refine W.cond rfl (fun _ => ?_) (fun h => by simp [hop] at h; omega)
  apply W.sr
  apply oop; rfl; apply Pev.build; rfl; exact CellsL.agg; rfl; exact Fill.au; rfl
  apply OL.storeB; rfl; rfl; exact CellsL.agg; rfl; rfl; rfl; exact Swap.au; exact Put.au
  apply oas; rfl; rfl
  apply OL.nx
  refine W.rt ?_
  exact At.finCT (b := b6) (cs := [.int .i64 0, .int .i64 0, .slice none 0 0, .pointer none]) rfl rfl (by exact mau) rfl rfl rfl (fun w' hw' => ⟨rfl, hw'.thin (.any (fun k hk => by rw [show k = b6 from hk]; exact hb6) (.any (fun k hk => by rw [show k = b4 from hk]; exact hb4) Thin.same))⟩)
theorem eff_bad2 (bm : Nat) (i : Go.Ss.In) (iy : Sc) (hop : i.op = 19) (a0 a1 : PV) (hbad : a0.k ≠ 3 ∨ a1.k ≠ 0) (bt : Nat) (H : List Eng.Item) (S : List World) (s0 : World) (hs0 : s0 ∈ S) (w : World)
    (hc : Cls (blk bt 198 (cat pC [a0, a1]) :: H) S w) :
    Calls Try.prog 171 [.pointer (some ⟨bm, 0, none⟩), .agg (inC i iy).toArray, .slice (some ⟨bt, 0, none⟩) 2 2].toArray w fun e w' =>
      e = .returned (.tuple #[.agg (pC zP).toArray, .int .i64 5]) ∧ Cls (blk bt 198 (cat pC [a0, a1]) :: H) S w' := by
  rw [cat2C] at hc ⊢
  refine enter Try.func171 rfl Try.ntmps171 rfl hc ?_
  (simp only [argEnv, Nat.zero_add, Nat.reduceAdd])
  unfold inC
  apply W.sr
  apply OL.box; rfl; rfl; exact CellsL.agg; (intro bk hbk; have hbk0 := hbk.mem s0 hs0)
  apply OL.alloc; rfl; rfl; exact CellsL.agg; (intro bk hbk; have hbk0 := hbk.mem s0 hs0)
  apply oas; rfl; rfl
  apply OL.nx
  apply W.seq
  apply W.sr
  apply ofa; rfl; rfl; rfl
  apply old; rfl; rfl; exact .tail _ (.head _); rfl; rfl
  apply OL.nx
  apply W.block
  apply W.sr
  apply obn; rfl; rfl; rfl; apply Bin.eql
  apply oas; rfl; rfl
  apply OL.nx
  rename_i b4 hb4 hb40
  revert hbk0
  revert bk
  intro b6 hb6 hb60
  (refine W.cnd (fun s1 => ?_) (fun s1 => ?_)) <;> (try (exfalso; first | omega | exact s1 trivial | contradiction))
  apply W.sr
  apply obn; rfl; rfl; rfl; apply Bin.eql
  apply oas; rfl; rfl
  apply OL.nx
  (refine W.cnd (fun s2 => ?_) (fun s2 => ?_)) <;> (try (exfalso; first | omega | exact s2 trivial | contradiction))
  apply W.sr
  apply obn; rfl; rfl; rfl; apply Bin.eql
  apply oas; rfl; rfl
  apply OL.nx
  (refine W.cnd (fun s3 => ?_) (fun s3 => ?_)) <;> (try (exfalso; first | omega | exact s3 trivial | contradiction))
  apply W.skip
  with_reducible apply At.in_normal
  with_reducible apply At.next
  apply W.seq
  apply W.sr
  apply omv; rfl; rfl
  apply oop; rfl; apply Pev.idxB; rfl; exact yes; rfl; exact yes; rfl; intro hcond; omega; rfl
  apply ofa; rfl; rfl; rfl
  apply old; rfl; rfl; exact .tail _ (.tail _ (.head _)); rfl; rfl
  apply obn; rfl; rfl; rfl; apply Bin.neq
  apply omv; rfl; rfl
  apply ono; rfl; rfl; rfl; apply Pev.fld; rfl; exact yes; rfl
  apply ono; rfl; rfl; rfl; apply Pev.load_blk; rfl; exact fun h => h; exact .tail _ (.head _); rfl; rfl
  apply ono; rfl; rfl; rfl; apply Pev.bin; rfl; exact fun h => h; rfl; exact yes; intro hcond; apply Bin.neq
  apply ono; rfl; rfl; rfl; apply Pev.move; rfl; exact fun h => h
  apply OL.op; exact Guard.cyes rfl rfl; rfl; rfl; apply Pev.move; rfl; exact yes
  apply OL.op; exact Guard.cyes rfl rfl; rfl; rfl; apply Pev.idxB; rfl; exact fun h => h; rfl; exact yes; rfl; intro hcond; omega; rfl
  apply OL.op; exact Guard.cyes rfl rfl; rfl; rfl; apply Pev.fld; rfl; exact fun h => h; rfl
  apply OL.op; exact Guard.cyes rfl rfl; rfl; rfl; apply Pev.load_blk; rfl; exact fun h => h; exact .tail _ (.tail _ (.head _)); rfl; rfl
  apply OL.op; exact Guard.cyes rfl rfl; rfl; rfl; apply Pev.bin; rfl; exact fun h => h; rfl; exact yes; intro hcond; apply Bin.neq
  apply ono; rfl; rfl; rfl; apply Pev.pick_and; rfl; exact fun h => h; rfl; exact fun h => h
  apply oop; rfl; apply Pev.pick_or; rfl; exact yes; rfl; exact fun h => h
  apply OL.nx
  refine W.cond rfl (fun _ => ?_) (fun h => by simp [hop] at h; omega)
  apply W.sr
  apply oop; rfl; apply Pev.build; rfl; exact CellsL.agg; rfl; exact Fill.au; rfl
  apply OL.storeB; rfl; rfl; exact CellsL.agg; rfl; rfl; rfl; exact Swap.au; exact Put.au
  apply oas; rfl; rfl
  apply OL.nx
  refine W.rt ?_
  exact At.finCT (b := b6) (cs := [.int .i64 0, .int .i64 0, .slice none 0 0, .pointer none]) rfl rfl (by exact mau) rfl rfl rfl (fun w' hw' => ⟨rfl, hw'.thin (.any (fun k hk => by rw [show k = b6 from hk]; exact hb6) (.any (fun k hk => by rw [show k = b4 from hk]; exact hb4) Thin.same))⟩)
theorem eff_bad3 (bm : Nat) (i : Go.Ss.In) (iy : Sc) (hop : i.op = 20) (a0 a1 a2 : PV) (hbad : a0.k ≠ 3 ∨ a1.k ≠ 0) (bt : Nat) (H : List Eng.Item) (S : List World) (s0 : World) (hs0 : s0 ∈ S) (w : World)
    (hc : Cls (blk bt 198 (cat pC [a0, a1, a2]) :: H) S w) :
    Calls Try.prog 171 [.pointer (some ⟨bm, 0, none⟩), .agg (inC i iy).toArray, .slice (some ⟨bt, 0, none⟩) 3 3].toArray w fun e w' =>
      e = .returned (.tuple #[.agg (pC zP).toArray, .int .i64 5]) ∧ Cls (blk bt 198 (cat pC [a0, a1, a2]) :: H) S w' := by
  rw [cat3C] at hc ⊢
  refine enter Try.func171 rfl Try.ntmps171 rfl hc ?_
  (simp only [argEnv, Nat.zero_add, Nat.reduceAdd])
  unfold inC
  apply W.sr
  apply OL.box; rfl; rfl; exact CellsL.agg; (intro bk hbk; have hbk0 := hbk.mem s0 hs0)
  apply OL.alloc; rfl; rfl; exact CellsL.agg; (intro bk hbk; have hbk0 := hbk.mem s0 hs0)
  apply oas; rfl; rfl
  apply OL.nx
  apply W.seq
  apply W.sr
  apply ofa; rfl; rfl; rfl
  apply old; rfl; rfl; exact .tail _ (.head _); rfl; rfl
  apply OL.nx
  apply W.block
  apply W.sr
  apply obn; rfl; rfl; rfl; apply Bin.eql
  apply oas; rfl; rfl
  apply OL.nx
  rename_i b4 hb4 hb40
  revert hbk0
  revert bk
  intro b6 hb6 hb60
  (refine W.cnd (fun s1 => ?_) (fun s1 => ?_)) <;> (try (exfalso; first | omega | exact s1 trivial | contradiction))
  apply W.sr
  apply obn; rfl; rfl; rfl; apply Bin.eql
  apply oas; rfl; rfl
  apply OL.nx
  (refine W.cnd (fun s2 => ?_) (fun s2 => ?_)) <;> (try (exfalso; first | omega | exact s2 trivial | contradiction))
  apply W.sr
  apply obn; rfl; rfl; rfl; apply Bin.eql
  apply oas; rfl; rfl
  apply OL.nx
  (refine W.cnd (fun s3 => ?_) (fun s3 => ?_)) <;> (try (exfalso; first | omega | exact s3 trivial | contradiction))
  apply W.skip
  with_reducible apply At.in_normal
  with_reducible apply At.next
  apply W.seq
  apply W.sr
  apply omv; rfl; rfl
  apply oop; rfl; apply Pev.idxB; rfl; exact yes; rfl; exact yes; rfl; intro hcond; omega; rfl
  apply ofa; rfl; rfl; rfl
  apply old; rfl; rfl; exact .tail _ (.tail _ (.head _)); rfl; rfl
  apply obn; rfl; rfl; rfl; apply Bin.neq
  apply omv; rfl; rfl
  apply ono; rfl; rfl; rfl; apply Pev.fld; rfl; exact yes; rfl
  apply ono; rfl; rfl; rfl; apply Pev.load_blk; rfl; exact fun h => h; exact .tail _ (.head _); rfl; rfl
  apply ono; rfl; rfl; rfl; apply Pev.bin; rfl; exact fun h => h; rfl; exact yes; intro hcond; apply Bin.neq
  apply ono; rfl; rfl; rfl; apply Pev.move; rfl; exact fun h => h
  apply OL.op; exact Guard.cyes rfl rfl; rfl; rfl; apply Pev.move; rfl; exact yes
  apply OL.op; exact Guard.cyes rfl rfl; rfl; rfl; apply Pev.idxB; rfl; exact fun h => h; rfl; exact yes; rfl; intro hcond; omega; rfl
  apply OL.op; exact Guard.cyes rfl rfl; rfl; rfl; apply Pev.fld; rfl; exact fun h => h; rfl
  apply OL.op; exact Guard.cyes rfl rfl; rfl; rfl; apply Pev.load_blk; rfl; exact fun h => h; exact .tail _ (.tail _ (.head _)); rfl; rfl
  apply OL.op; exact Guard.cyes rfl rfl; rfl; rfl; apply Pev.bin; rfl; exact fun h => h; rfl; exact yes; intro hcond; apply Bin.neq
  apply ono; rfl; rfl; rfl; apply Pev.pick_and; rfl; exact fun h => h; rfl; exact fun h => h
  apply oop; rfl; apply Pev.pick_or; rfl; exact yes; rfl; exact fun h => h
  apply OL.nx
  refine W.cond rfl (fun _ => ?_) (fun h => by simp [hop] at h; omega)
  apply W.sr
  apply oop; rfl; apply Pev.build; rfl; exact CellsL.agg; rfl; exact Fill.au; rfl
  apply OL.storeB; rfl; rfl; exact CellsL.agg; rfl; rfl; rfl; exact Swap.au; exact Put.au
  apply oas; rfl; rfl
  apply OL.nx
  refine W.rt ?_
  exact At.finCT (b := b6) (cs := [.int .i64 0, .int .i64 0, .slice none 0 0, .pointer none]) rfl rfl (by exact mau) rfl rfl rfl (fun w' hw' => ⟨rfl, hw'.thin (.any (fun k hk => by rw [show k = b6 from hk]; exact hb6) (.any (fun k hk => by rw [show k = b4 from hk]; exact hb4) Thin.same))⟩)
theorem eff_len (bm : Nat) (i : Go.Ss.In) (iy : Sc) (hop : i.op = 17) (a0 : PV) (bx cb : Nat) (xs : List PV) (hxl : xs.length ≤ 1024) (hk0 : a0.k = 3) (hbx : a0.b = bx) (bt : Nat) (H : List Eng.Item) (S : List World) (s0 : World) (hs0 : s0 ∈ S) (w : World)
    (hc : Cls (blk bt 198 (cat pC [a0]) :: blk bx 191 [.slice (some ⟨cb, 0, none⟩) xs.length xs.length] :: blk cb 198 (cat pC xs) :: H) S w) :
    Calls Try.prog 171 [.pointer (some ⟨bm, 0, none⟩), .agg (inC i iy).toArray, .slice (some ⟨bt, 0, none⟩) 1 1].toArray w fun e w' =>
      e = .returned (.tuple #[.agg (pC (pw xs.length)).toArray, .int .i64 0]) ∧ Cls (blk bt 198 (cat pC [a0]) :: blk bx 191 [.slice (some ⟨cb, 0, none⟩) xs.length xs.length] :: blk cb 198 (cat pC xs) :: H) S w' := by
  rw [cat1C] at hc ⊢
  refine enter Try.func171 rfl Try.ntmps171 rfl hc ?_
  (simp only [argEnv, Nat.zero_add, Nat.reduceAdd])
  unfold inC
  apply W.sr
  apply OL.box; rfl; rfl; exact CellsL.agg; (intro bk hbk; have hbk0 := hbk.mem s0 hs0)
  apply OL.alloc; rfl; rfl; exact CellsL.agg; (intro bk hbk; have hbk0 := hbk.mem s0 hs0)
  apply oas; rfl; rfl
  apply OL.nx
  apply W.seq
  apply W.sr
  apply ofa; rfl; rfl; rfl
  apply old; rfl; rfl; exact .tail _ (.head _); rfl; rfl
  apply OL.nx
  apply W.block
  apply W.sr
  apply obn; rfl; rfl; rfl; apply Bin.eql
  apply oas; rfl; rfl
  apply OL.nx
  rename_i b4 hb4 hb40
  revert hbk0
  revert bk
  intro b6 hb6 hb60
  (refine W.cnd (fun s1 => ?_) (fun s1 => ?_)) <;> (try (exfalso; first | omega | exact s1 trivial | contradiction))
  apply W.sr
  apply obn; rfl; rfl; rfl; apply Bin.eql
  apply oas; rfl; rfl
  apply OL.nx
  (refine W.cnd (fun s2 => ?_) (fun s2 => ?_)) <;> (try (exfalso; first | omega | exact s2 trivial | contradiction))
  apply W.sr
  apply obn; rfl; rfl; rfl; apply Bin.eql
  apply oas; rfl; rfl
  apply OL.nx
  (refine W.cnd (fun s3 => ?_) (fun s3 => ?_)) <;> (try (exfalso; first | omega | exact s3 trivial | contradiction))
  rw [hk0, if_pos rfl, hbx]
  apply W.skip
  with_reducible apply At.in_normal
  with_reducible apply At.next
  apply W.seq
  apply W.sr
  apply omv; rfl; rfl
  apply oop; rfl; apply Pev.idxB; rfl; exact yes; rfl; exact yes; rfl; intro hcond; omega; rfl
  apply ofa; rfl; rfl; rfl
  apply old; rfl; rfl; exact .tail _ (.tail _ (.head _)); rfl; rfl
  apply obn; rfl; rfl; rfl; apply Bin.neq
  apply omv; rfl; rfl
  apply ono; rfl; rfl; rfl; apply Pev.fld; rfl; exact yes; rfl
  apply ono; rfl; rfl; rfl; apply Pev.load_blk; rfl; exact yes; exact .tail _ (.head _); rfl; rfl
  apply ono; rfl; rfl; rfl; apply Pev.bin; rfl; exact yes; rfl; exact yes; intro hcond; apply Bin.neq
  apply ono; rfl; rfl; rfl; apply Pev.move; rfl; exact yes
  apply oy; rfl; rfl; rfl; apply Pev.move; rfl; exact yes
  apply oy; rfl; rfl; rfl; apply Pev.idxB; rfl; exact fun h => h; rfl; exact yes; rfl; intro hcond; (simp only [Bool.and_eq_true, Bool.or_eq_true, Bool.not_eq_true', decide_eq_true_eq, decide_eq_false_iff_not] at hcond; omega); rfl
  apply oy; rfl; rfl; rfl; apply Pev.fld; rfl; exact fun h => h; rfl
  apply OL.gateOff; exact Guard.yes rfl rfl; (simp; omega); rfl
  apply OL.gateOff; exact Guard.yes rfl rfl; (simp; omega); rfl
  apply ono; rfl; rfl; rfl; apply Pev.pick_off; rfl; exact yes; (intro hcond; simp; omega); rfl; exact yes
  apply oop; rfl; apply Pev.pick_or; rfl; exact yes; rfl; exact yes
  apply OL.nx
  refine W.cond rfl (fun h => by simp [hop] at h) (fun _ => ?_)
  apply W.sk
  apply W.sr
  apply omv; rfl; rfl
  apply oop; rfl; apply Pev.idxB; rfl; exact yes; rfl; exact yes; rfl; intro hcond; omega; rfl
  apply ofa; rfl; rfl; rfl
  apply old; rfl; rfl; exact .tail _ (.tail _ (.head _)); rfl; rfl
  apply oop; rfl; apply Pev.nil_ptr; rfl; exact yes
  apply old; rfl; rfl; apply List.Mem.tail; exact .tail _ (.tail _ (.head _)); rfl; rfl
  apply oas; rfl; rfl
  apply OL.nx
  apply W.seq
  apply W.sr
  apply ofa; rfl; rfl; rfl
  apply old; rfl; rfl; exact .tail _ (.head _); rfl; rfl
  apply obn; rfl; rfl; rfl; apply Bin.eql
  apply OL.nx
  (refine W.cnd (fun s4 => ?_) (fun s4 => ?_)) <;> (try (exfalso; first | omega | exact s4 trivial | contradiction))
  apply W.sr
  apply omv; rfl; rfl
  apply oop; rfl; apply Pev.len_slice; rfl; exact yes; rfl
  (((first | (with_reducible apply OL.op) | (with_reducible apply QL.op)); (exact Guard.au); rfl; rfl); (exact Pev.call rfl (by exact Args.au) (fun _ w2 hw2 => (wordOf_calls _ w2).mono (fun e w3 h => ⟨h.1, hw2.ext h.2⟩))))
  apply OL.storeB; rfl; rfl; exact CellsL.agg; rfl; rfl; rfl; exact Swap.au; exact Put.au
  apply oas; rfl; rfl
  apply OL.nx
  refine W.rt ?_
  exact At.finCT (b := b6) (cs := [.int .i64 0, .int .i64 (xs.length), .slice none 0 0, .pointer none]) rfl rfl (by exact mau) rfl rfl rfl (fun w' hw' => ⟨rfl, hw'.thin (.any (fun k hk => by rw [show k = b6 from hk]; exact hb6) (.any (fun k hk => by rw [show k = b4 from hk]; exact hb4) Thin.same))⟩)
theorem eff_get (bm : Nat) (i : Go.Ss.In) (iy : Sc) (hop : i.op = 19) (a0 a1 : PV) (hk1 : a1.k = 0) (bx cb : Nat) (xs : List PV) (hxl : xs.length ≤ 1024) (hk0 : a0.k = 3) (hbx : a0.b = bx) (bt : Nat) (H : List Eng.Item) (S : List World) (s0 : World) (hs0 : s0 ∈ S) (w : World)
    (hc : Cls (blk bt 198 (cat pC [a0, a1]) :: blk bx 191 [.slice (some ⟨cb, 0, none⟩) xs.length xs.length] :: blk cb 198 (cat pC xs) :: H) S w) :
    Calls Try.prog 171 [.pointer (some ⟨bm, 0, none⟩), .agg (inC i iy).toArray, .slice (some ⟨bt, 0, none⟩) 2 2].toArray w fun e w' =>
      ((a1.n < 0 ∨ (xs.length : Int) ≤ a1.n) ∧ e = .returned (.tuple #[.agg (pC zP).toArray, .int .i64 2]) ∧ Cls (blk bt 198 (cat pC [a0, a1]) :: blk bx 191 [.slice (some ⟨cb, 0, none⟩) xs.length xs.length] :: blk cb 198 (cat pC xs) :: H) S w') ∨ (¬ (a1.n < 0 ∨ (xs.length : Int) ≤ a1.n) ∧ e = .returned (.tuple #[.agg (pC (xs.getD a1.n.toNat zP)).toArray, .int .i64 0]) ∧ Cls (blk bt 198 (cat pC [a0, a1]) :: blk bx 191 [.slice (some ⟨cb, 0, none⟩) xs.length xs.length] :: blk cb 198 (cat pC xs) :: H) S w') := by
  rw [cat2C] at hc ⊢
  refine enter Try.func171 rfl Try.ntmps171 rfl hc ?_
  (simp only [argEnv, Nat.zero_add, Nat.reduceAdd])
  unfold inC
  apply W.sr
  apply OL.box; rfl; rfl; exact CellsL.agg; (intro bk hbk; have hbk0 := hbk.mem s0 hs0)
  apply OL.alloc; rfl; rfl; exact CellsL.agg; (intro bk hbk; have hbk0 := hbk.mem s0 hs0)
  apply oas; rfl; rfl
  apply OL.nx
  apply W.seq
  apply W.sr
  apply ofa; rfl; rfl; rfl
  apply old; rfl; rfl; exact .tail _ (.head _); rfl; rfl
  apply OL.nx
  apply W.block
  apply W.sr
  apply obn; rfl; rfl; rfl; apply Bin.eql
  apply oas; rfl; rfl
  apply OL.nx
  rename_i b4 hb4 hb40
  revert hbk0
  revert bk
  intro b6 hb6 hb60
  (refine W.cnd (fun s1 => ?_) (fun s1 => ?_)) <;> (try (exfalso; first | omega | exact s1 trivial | contradiction))
  apply W.sr
  apply obn; rfl; rfl; rfl; apply Bin.eql
  apply oas; rfl; rfl
  apply OL.nx
  (refine W.cnd (fun s2 => ?_) (fun s2 => ?_)) <;> (try (exfalso; first | omega | exact s2 trivial | contradiction))
  apply W.sr
  apply obn; rfl; rfl; rfl; apply Bin.eql
  apply oas; rfl; rfl
  apply OL.nx
  (refine W.cnd (fun s3 => ?_) (fun s3 => ?_)) <;> (try (exfalso; first | omega | exact s3 trivial | contradiction))
  rw [hk0, if_pos rfl, hbx]
  apply W.skip
  with_reducible apply At.in_normal
  with_reducible apply At.next
  apply W.seq
  apply W.sr
  apply omv; rfl; rfl
  apply oop; rfl; apply Pev.idxB; rfl; exact yes; rfl; exact yes; rfl; intro hcond; omega; rfl
  apply ofa; rfl; rfl; rfl
  apply old; rfl; rfl; exact .tail _ (.tail _ (.head _)); rfl; rfl
  apply obn; rfl; rfl; rfl; apply Bin.neq
  apply omv; rfl; rfl
  apply ono; rfl; rfl; rfl; apply Pev.fld; rfl; exact yes; rfl
  apply ono; rfl; rfl; rfl; apply Pev.load_blk; rfl; exact yes; exact .tail _ (.head _); rfl; rfl
  apply ono; rfl; rfl; rfl; apply Pev.bin; rfl; exact yes; rfl; exact yes; intro hcond; apply Bin.neq
  apply ono; rfl; rfl; rfl; apply Pev.move; rfl; exact yes
  apply oy; rfl; rfl; rfl; apply Pev.move; rfl; exact yes
  apply oy; rfl; rfl; rfl; apply Pev.idxB; rfl; exact fun h => h; rfl; exact yes; rfl; intro hcond; omega; rfl
  apply oy; rfl; rfl; rfl; apply Pev.fld; rfl; exact fun h => h; rfl
  apply oy; rfl; rfl; rfl; apply Pev.load_blk; rfl; exact fun h => h; exact .tail _ (.tail _ (.head _)); rfl; rfl
  apply oy; rfl; rfl; rfl; apply Pev.bin; rfl; exact fun h => h; rfl; exact yes; intro hcond; apply Bin.neq
  apply ono; rfl; rfl; rfl; apply Pev.pick_and; rfl; exact yes; rfl; exact fun h => h
  apply oop; rfl; apply Pev.pick_or; rfl; exact yes; rfl; exact yes
  apply OL.nx
  refine W.cond rfl (fun h => by simp [hk1] at h) (fun _ => ?_)
  apply W.sk
  apply W.sr
  apply omv; rfl; rfl
  apply oop; rfl; apply Pev.idxB; rfl; exact yes; rfl; exact yes; rfl; intro hcond; omega; rfl
  apply ofa; rfl; rfl; rfl
  apply old; rfl; rfl; exact .tail _ (.tail _ (.head _)); rfl; rfl
  apply oop; rfl; apply Pev.nil_ptr; rfl; exact yes
  apply old; rfl; rfl; apply List.Mem.tail; exact .tail _ (.tail _ (.head _)); rfl; rfl
  apply oas; rfl; rfl
  apply OL.nx
  apply W.seq
  apply W.sr
  apply ofa; rfl; rfl; rfl
  apply old; rfl; rfl; exact .tail _ (.head _); rfl; rfl
  apply obn; rfl; rfl; rfl; apply Bin.eql
  apply OL.nx
  (refine W.cnd (fun s4 => ?_) (fun s4 => ?_)) <;> (try (exfalso; first | omega | exact s4 trivial | contradiction))
  apply W.sk
  apply W.sr
  apply omv; rfl; rfl
  apply oop; rfl; apply Pev.idxB; rfl; exact yes; rfl; exact yes; rfl; intro hcond; omega; rfl
  apply ofa; rfl; rfl; rfl
  apply old; rfl; rfl; exact .tail _ (.tail _ (.head _)); rfl; rfl
  apply oas; rfl; rfl
  apply OL.nx
  apply W.seq
  apply W.sr
  apply omv; rfl; rfl
  apply obn; rfl; rfl; rfl; apply Bin.lss
  apply omv; rfl; rfl
  apply ono; rfl; rfl; rfl; apply Pev.move; rfl; exact yes
  apply ono; rfl; rfl; rfl; apply Pev.move; rfl; exact yes
  apply ono; rfl; rfl; rfl; apply Pev.len_slice; rfl; exact fun h => h; rfl
  apply ono; rfl; rfl; rfl; apply Pev.bin; rfl; exact fun h => h; rfl; exact fun h => h; intro hcond; apply Bin.geq
  apply oop; rfl; apply Pev.pick_or; rfl; exact yes; rfl; exact fun h => h
  apply OL.nx
  by_cases h2 : a1.n < 0 ∨ (xs.length : Int) ≤ a1.n
  · refine W.cond rfl (fun _ => ?_) (fun h => by simp at h; omega)
    apply W.sr
    apply oop; rfl; apply Pev.build; rfl; exact CellsL.agg; rfl; exact Fill.au; rfl
    apply OL.storeB; rfl; rfl; exact CellsL.agg; rfl; rfl; rfl; exact Swap.au; exact Put.au
    apply oas; rfl; rfl
    apply OL.nx
    refine W.rt ?_
    exact At.finCT (b := b6) (cs := [.int .i64 0, .int .i64 0, .slice none 0 0, .pointer none]) rfl rfl (by exact mau) rfl rfl rfl (fun w' hw' => .inl ⟨h2, rfl, hw'.thin (.any (fun k hk => by rw [show k = b6 from hk]; exact hb6) (.any (fun k hk => by rw [show k = b4 from hk]; exact hb4) Thin.same))⟩)
  refine W.cond rfl (fun h => by simp at h; omega) (fun _ => ?_)
  obtain ⟨n, hn⟩ : ∃ n : Nat, a1.n = (n : Int) := ⟨a1.n.toNat, by omega⟩
  apply W.sk
  apply W.seq
  apply W.sr
  apply ofa; rfl; rfl; rfl
  apply old; rfl; rfl; exact .tail _ (.head _); rfl; rfl
  apply obn; rfl; rfl; rfl; apply Bin.eql
  apply OL.nx
  (refine W.cnd (fun s5 => ?_) (fun s5 => ?_)) <;> (try (exfalso; first | omega | exact s5 trivial | contradiction))
  rw [hn]
  apply W.sr
  apply omv; rfl; rfl
  apply omv; rfl; rfl
  apply oop; rfl; apply Pev.idxB; rfl; exact yes; rfl; exact yes; rfl; intro hcond; omega; rfl
  obtain ⟨c, hcc⟩ : ∃ c, xs[n]? = some c := ⟨_, List.getElem?_eq_getElem (by omega)⟩
  (((first | (with_reducible apply OL.op) | (with_reducible apply QL.op)); (exact Guard.au); rfl; rfl); (exact Pev.load_blkE (vs := pC c) rfl (by (first | exact fun _ => rfl | exact fun h => h | (intro h; simp_all; done))) (by exact mau) rfl rfl (fun _ jj x hj => by rw [show 0 + ((n : Nat) : Int).toNat * 4 = n * 4 by omega]; exact cat_get (f := pC) (sz := 4) (fun _ => rfl) hcc jj x hj)))
  apply OL.storeB; rfl; rfl; exact CellsL.agg; rfl; rfl; rfl; exact Swap.au; exact Put.au
  apply oas; rfl; rfl
  apply OL.nx
  refine W.rt ?_
  have e1 : xs.getD (n : Int).toNat zP = c := by rw [Int.toNat_natCast]; exact getD_at hcc
  exact At.finCT (b := b6) (cs := [.int .i64 c.k, .int .i64 c.n, .slice c.q c.l.length c.cap, .pointer (if c.k = 3 then some ⟨c.b, 0, none⟩ else none)]) rfl rfl (by exact mau) rfl rfl rfl (fun w' hw' => .inr ⟨by omega, by rw [e1]; rfl, hw'.thin (.any (fun k hk => by rw [show k = b6 from hk]; exact hb6) (.any (fun k hk => by rw [show k = b4 from hk]; exact hb4) Thin.same))⟩)
theorem eff_set (bm : Nat) (i : Go.Ss.In) (iy : Sc) (hop : i.op = 20) (a0 a1 a2 : PV) (hk1 : a1.k = 0) (bx cb : Nat) (xs : List PV) (hxl : xs.length ≤ 1024) (hk0 : a0.k = 3) (hbx : a0.b = bx) (bt : Nat) (H : List Eng.Item) (S : List World) (s0 : World) (hs0 : s0 ∈ S) (w : World)
    (hc : Cls (blk bt 198 (cat pC [a0, a1, a2]) :: blk bx 191 [.slice (some ⟨cb, 0, none⟩) xs.length xs.length] :: blk cb 198 (cat pC xs) :: H) S w) :
    Calls Try.prog 171 [.pointer (some ⟨bm, 0, none⟩), .agg (inC i iy).toArray, .slice (some ⟨bt, 0, none⟩) 3 3].toArray w fun e w' =>
      ((a1.n < 0 ∨ (xs.length : Int) ≤ a1.n) ∧ e = .returned (.tuple #[.agg (pC zP).toArray, .int .i64 2]) ∧ Cls (blk bt 198 (cat pC [a0, a1, a2]) :: blk bx 191 [.slice (some ⟨cb, 0, none⟩) xs.length xs.length] :: blk cb 198 (cat pC xs) :: H) S w') ∨ (¬ (a1.n < 0 ∨ (xs.length : Int) ≤ a1.n) ∧ e = .returned (.tuple #[.agg (pC zP).toArray, .int .i64 0]) ∧ Cls (blk bt 198 (cat pC [a0, a1, a2]) :: blk bx 191 [.slice (some ⟨cb, 0, none⟩) xs.length xs.length] :: blk cb 198 (cat pC (xs.set a1.n.toNat a2)) :: H) S w') := by
  rw [cat3C] at hc ⊢
  refine enter Try.func171 rfl Try.ntmps171 rfl hc ?_
  (simp only [argEnv, Nat.zero_add, Nat.reduceAdd])
  unfold inC
  apply W.sr
  apply OL.box; rfl; rfl; exact CellsL.agg; (intro bk hbk; have hbk0 := hbk.mem s0 hs0)
  apply OL.alloc; rfl; rfl; exact CellsL.agg; (intro bk hbk; have hbk0 := hbk.mem s0 hs0)
  apply oas; rfl; rfl
  apply OL.nx
  apply W.seq
  apply W.sr
  apply ofa; rfl; rfl; rfl
  apply old; rfl; rfl; exact .tail _ (.head _); rfl; rfl
  apply OL.nx
  apply W.block
  apply W.sr
  apply obn; rfl; rfl; rfl; apply Bin.eql
  apply oas; rfl; rfl
  apply OL.nx
  rename_i b4 hb4 hb40
  revert hbk0
  revert bk
  intro b6 hb6 hb60
  (refine W.cnd (fun s1 => ?_) (fun s1 => ?_)) <;> (try (exfalso; first | omega | exact s1 trivial | contradiction))
  apply W.sr
  apply obn; rfl; rfl; rfl; apply Bin.eql
  apply oas; rfl; rfl
  apply OL.nx
  (refine W.cnd (fun s2 => ?_) (fun s2 => ?_)) <;> (try (exfalso; first | omega | exact s2 trivial | contradiction))
  apply W.sr
  apply obn; rfl; rfl; rfl; apply Bin.eql
  apply oas; rfl; rfl
  apply OL.nx
  (refine W.cnd (fun s3 => ?_) (fun s3 => ?_)) <;> (try (exfalso; first | omega | exact s3 trivial | contradiction))
  rw [hk0, if_pos rfl, hbx]
  apply W.skip
  with_reducible apply At.in_normal
  with_reducible apply At.next
  apply W.seq
  apply W.sr
  apply omv; rfl; rfl
  apply oop; rfl; apply Pev.idxB; rfl; exact yes; rfl; exact yes; rfl; intro hcond; omega; rfl
  apply ofa; rfl; rfl; rfl
  apply old; rfl; rfl; exact .tail _ (.tail _ (.head _)); rfl; rfl
  apply obn; rfl; rfl; rfl; apply Bin.neq
  apply omv; rfl; rfl
  apply ono; rfl; rfl; rfl; apply Pev.fld; rfl; exact yes; rfl
  apply ono; rfl; rfl; rfl; apply Pev.load_blk; rfl; exact yes; exact .tail _ (.head _); rfl; rfl
  apply ono; rfl; rfl; rfl; apply Pev.bin; rfl; exact yes; rfl; exact yes; intro hcond; apply Bin.neq
  apply ono; rfl; rfl; rfl; apply Pev.move; rfl; exact yes
  apply oy; rfl; rfl; rfl; apply Pev.move; rfl; exact yes
  apply oy; rfl; rfl; rfl; apply Pev.idxB; rfl; exact fun h => h; rfl; exact yes; rfl; intro hcond; omega; rfl
  apply oy; rfl; rfl; rfl; apply Pev.fld; rfl; exact fun h => h; rfl
  apply oy; rfl; rfl; rfl; apply Pev.load_blk; rfl; exact fun h => h; exact .tail _ (.tail _ (.head _)); rfl; rfl
  apply oy; rfl; rfl; rfl; apply Pev.bin; rfl; exact fun h => h; rfl; exact yes; intro hcond; apply Bin.neq
  apply ono; rfl; rfl; rfl; apply Pev.pick_and; rfl; exact yes; rfl; exact fun h => h
  apply oop; rfl; apply Pev.pick_or; rfl; exact yes; rfl; exact yes
  apply OL.nx
  refine W.cond rfl (fun h => by simp [hk1] at h) (fun _ => ?_)
  apply W.sk
  apply W.sr
  apply omv; rfl; rfl
  apply oop; rfl; apply Pev.idxB; rfl; exact yes; rfl; exact yes; rfl; intro hcond; omega; rfl
  apply ofa; rfl; rfl; rfl
  apply old; rfl; rfl; exact .tail _ (.tail _ (.head _)); rfl; rfl
  apply oop; rfl; apply Pev.nil_ptr; rfl; exact yes
  apply old; rfl; rfl; apply List.Mem.tail; exact .tail _ (.tail _ (.head _)); rfl; rfl
  apply oas; rfl; rfl
  apply OL.nx
  apply W.seq
  apply W.sr
  apply ofa; rfl; rfl; rfl
  apply old; rfl; rfl; exact .tail _ (.head _); rfl; rfl
  apply obn; rfl; rfl; rfl; apply Bin.eql
  apply OL.nx
  (refine W.cnd (fun s4 => ?_) (fun s4 => ?_)) <;> (try (exfalso; first | omega | exact s4 trivial | contradiction))
  apply W.sk
  apply W.sr
  apply omv; rfl; rfl
  apply oop; rfl; apply Pev.idxB; rfl; exact yes; rfl; exact yes; rfl; intro hcond; omega; rfl
  apply ofa; rfl; rfl; rfl
  apply old; rfl; rfl; exact .tail _ (.tail _ (.head _)); rfl; rfl
  apply oas; rfl; rfl
  apply OL.nx
  apply W.seq
  apply W.sr
  apply omv; rfl; rfl
  apply obn; rfl; rfl; rfl; apply Bin.lss
  apply omv; rfl; rfl
  apply ono; rfl; rfl; rfl; apply Pev.move; rfl; exact yes
  apply ono; rfl; rfl; rfl; apply Pev.move; rfl; exact yes
  apply ono; rfl; rfl; rfl; apply Pev.len_slice; rfl; exact fun h => h; rfl
  apply ono; rfl; rfl; rfl; apply Pev.bin; rfl; exact fun h => h; rfl; exact fun h => h; intro hcond; apply Bin.geq
  apply oop; rfl; apply Pev.pick_or; rfl; exact yes; rfl; exact fun h => h
  apply OL.nx
  by_cases h2 : a1.n < 0 ∨ (xs.length : Int) ≤ a1.n
  · refine W.cond rfl (fun _ => ?_) (fun h => by simp at h; omega)
    apply W.sr
    apply oop; rfl; apply Pev.build; rfl; exact CellsL.agg; rfl; exact Fill.au; rfl
    apply OL.storeB; rfl; rfl; exact CellsL.agg; rfl; rfl; rfl; exact Swap.au; exact Put.au
    apply oas; rfl; rfl
    apply OL.nx
    refine W.rt ?_
    exact At.finCT (b := b6) (cs := [.int .i64 0, .int .i64 0, .slice none 0 0, .pointer none]) rfl rfl (by exact mau) rfl rfl rfl (fun w' hw' => .inl ⟨h2, rfl, hw'.thin (.any (fun k hk => by rw [show k = b6 from hk]; exact hb6) (.any (fun k hk => by rw [show k = b4 from hk]; exact hb4) Thin.same))⟩)
  refine W.cond rfl (fun h => by simp at h; omega) (fun _ => ?_)
  obtain ⟨n, hn⟩ : ∃ n : Nat, a1.n = (n : Int) := ⟨a1.n.toNat, by omega⟩
  apply W.sk
  apply W.seq
  apply W.sr
  apply ofa; rfl; rfl; rfl
  apply old; rfl; rfl; exact .tail _ (.head _); rfl; rfl
  apply obn; rfl; rfl; rfl; apply Bin.eql
  apply OL.nx
  (refine W.cnd (fun s5 => ?_) (fun s5 => ?_)) <;> (try (exfalso; first | omega | exact s5 trivial | contradiction))
  rw [hn]
  apply W.sk
  apply W.sr
  apply omv; rfl; rfl
  apply omv; rfl; rfl
  apply omv; rfl; rfl
  apply oop; rfl; apply Pev.idxB; rfl; exact yes; rfl; exact yes; rfl; intro hcond; omega; rfl
  apply oop; rfl; apply Pev.load_blkA; rfl; exact yes; exact .tail _ (.tail _ (.head _)); rfl; exact Take.au
  apply oop; rfl; apply Pev.idxB; rfl; exact yes; rfl; exact yes; rfl; intro hcond; omega; rfl
  refine OL.storeL (vs := pC a2) (cs := cat pC xs) rfl rfl rfl rfl rfl rfl ⟨?_, rfl⟩ (by exact Swap.au) ?_
  · rw [cat_length (f := pC) (sz := 4) (fun _ => rfl)]
    simp [pC]
    omega
  rw [show 0 + (n : Int).toNat * 4 = n * 4 by omega, cat_set (f := pC) (sz := 4) (fun _ => rfl) (by omega) (by omega)]
  apply OL.nsr
  (((first | (with_reducible apply OL.op) | (with_reducible apply QL.op)); (exact Guard.au); rfl; rfl); (exact Pev.call rfl (by exact Args.au) (fun _ w2 hw2 => (wordOf_calls _ w2).mono (fun e w3 h => ⟨h.1, hw2.ext h.2⟩))))
  apply OL.storeB; rfl; rfl; exact CellsL.agg; rfl; rfl; rfl; exact Swap.au; exact Put.au
  apply oas; rfl; rfl
  apply OL.nx
  apply W.ret
  rw [Int.toNat_natCast]
  exact At.finCT (b := b6) (cs := [.int .i64 0, .int .i64 0, .slice none 0 0, .pointer none]) rfl rfl (by exact mau) rfl rfl rfl (fun w' hw' => .inr ⟨by omega, rfl, hw'.thin (.any (fun k hk => by rw [show k = b6 from hk]; exact hb6) (.any (fun k hk => by rw [show k = b4 from hk]; exact hb4) Thin.same))⟩)
end Go.Proofs.Ytehelljmaiophaa.ss

/- The walks of ssa's machine: a new array. Conditions: none. -/
namespace Go.Proofs.Ytehelljmaiophaa.ss
set_option maxRecDepth 100000
open Go.Eng Go.RowKit Go.Ss
def AlP (S : List World) (B : Nat) (a0 a1 : PV) (m : MS) (v : PV) (t : Int) (m' : MS) (it : Eng.Item) : Prop :=
  (a0.k ≠ 0 ∧ v = zP ∧ t = 5 ∧ m' = m ∧ it = nothing) ∨
  (a0.k = 0 ∧ (a0.n < 0 ∨ 1024 < a0.n) ∧ v = zP ∧ t = 6 ∧ m' = m ∧ it = nothing) ∨
  (a0.k = 0 ∧ (0 ≤ a0.n ∧ a0.n ≤ 1024) ∧ m.left < a0.n ∧ v = zP ∧ t = 0 ∧ m' = { m with sh := true, ov := true } ∧ it = nothing) ∨
  (a0.k = 0 ∧ (0 ≤ a0.n ∧ a0.n ≤ 1024) ∧ a0.n ≤ m.left ∧ ∃ bx cb : Nat, v = .mk 3 0 none 0 bx [] ∧ t = 0 ∧ m' = { m with left := m.left - a0.n } ∧
    it = bag B [blk bx 191 [.slice (some ⟨cb, 0, none⟩) a0.n.toNat a0.n.toNat], blk cb 198 (cat pC (List.replicate a0.n.toNat a1))])
theorem AlP.ex (S : List World) (B : Nat) (a0 a1 : PV) (m : MS) : ∃ y : PV × Int × MS × Eng.Item, AlP S B a0 a1 m y.1 y.2.1 y.2.2.1 y.2.2.2 := by
  by_cases h0 : a0.k = 0
  · by_cases h1 : a0.n < 0 ∨ 1024 < a0.n
    · exact ⟨(_, _, _, _), .inr (.inl ⟨h0, h1, rfl, rfl, rfl, rfl⟩)⟩
    · by_cases h2 : m.left < a0.n
      · exact ⟨(_, _, _, _), .inr (.inr (.inl ⟨h0, by omega, h2, rfl, rfl, rfl, rfl⟩))⟩
      · exact ⟨(_, _, _, _), .inr (.inr (.inr ⟨h0, by omega, by omega, 0, 0, rfl, rfl, rfl, rfl⟩))⟩
  · exact ⟨(_, _, _, _), .inl ⟨h0, rfl, rfl, rfl, rfl⟩⟩
theorem alloc2_calls (bm : Nat) (m : MS) (a0 a1 : PV) (B : Nat) (H : List Eng.Item) (S : List World) (hbs : ∃ s ∈ S, B ≤ s.heap.size) (s0 : World) (hs0 : s0 ∈ S) (hsh : m.sh = false) (hl0 : 0 ≤ m.left) (hl6 : m.left ≤ 1000000) (w : World) (hc : Cls (blk bm 160 m.c :: H) S w) :
    Calls Try.prog 185 [.pointer (some ⟨bm, 0, none⟩), .agg (pC a0).toArray, .agg (pC a1).toArray].toArray w fun e w' =>
      ∃ v t m' it, e = .returned (.tuple #[.agg (pC v).toArray, .int .i64 t]) ∧ AlP S B a0 a1 m v t m' it ∧ Cls (it :: blk bm 160 m'.c :: H) S w' := by
  refine (alloc_calls bm m a0 a1 H S s0 hs0 hsh hl0 hl6 w hc).mono fun e w' h => ?_
  rcases h with ⟨h1, h2, h3⟩ | ⟨h1, h2, h3, h4⟩ | ⟨h1, h2, h3, h4, h5⟩ | ⟨h1, h2, h3, bx, cb, ⟨h4, h5⟩, h6, h7⟩
  · exact ⟨_, _, _, _, h2, .inl ⟨h1, rfl, rfl, rfl, rfl⟩, h3.nothing_in⟩
  · exact ⟨_, _, _, _, h3, .inr (.inl ⟨h1, h2, rfl, rfl, rfl, rfl⟩), h4.nothing_in⟩
  · exact ⟨_, _, _, _, h4, .inr (.inr (.inl ⟨h1, h2, h3, rfl, rfl, rfl, rfl⟩)), h5.nothing_in⟩
  · obtain ⟨s, hs, hB⟩ := hbs
    have hx := h4.mem s hs
    have hy := h5.mem s hs
    refine ⟨_, _, _, _, h6, .inr (.inr (.inr ⟨h1, h2, h3, bx, cb, rfl, rfl, rfl, rfl⟩)), ?_⟩
    have g1 := h7.bag_nil B
    have g2 := g1.perm (List.Perm.append_right _ (List.perm_append_comm (l₁ := [_]) (l₂ := [_, _])))
    have g3 : Cls (_ :: _ :: bag B [] :: _) S w' := g2
    have g4 := g3.perm (List.Perm.cons _ (List.Perm.refl _))
    have g5 := (g4.perm (List.Perm.swap _ _ _))
    have g6 : Cls (blk cb 198 (cat pC (List.replicate a0.n.toNat a1)) :: bag B [] :: blk bx 191 [.slice (some ⟨cb, 0, none⟩) a0.n.toNat a0.n.toNat] :: blk bm 160 { m with left := m.left - a0.n }.c :: H) S w' := g5.perm (List.Perm.cons _ (List.Perm.swap _ _ _))
    have g7 := g6.bag_in (fun k hk => by rw [show k = cb from hk]; omega)
    exact (g7.perm (List.Perm.swap _ _ _)).bag_in (fun k hk => by rw [show k = bx from hk]; omega)
structure XAl (S : List World) (B : Nat) (a0 a1 : PV) (m0 : MS) where
  v : PV
  t : Int
  m : MS
  it : Eng.Item
  ok : AlP S B a0 a1 m0 v t m it
  old : Nat → Value
theorem eff_new (bm : Nat) (i : Go.Ss.In) (iy : Sc) (hop : i.op = 16) (a0 a1 : PV) (m : MS) (B : Nat) (hsh : m.sh = false) (hl0 : 0 ≤ m.left) (hl6 : m.left ≤ 1000000) (bt : Nat) (H : List Eng.Item) (S : List World) (s0 : World) (hs0 : s0 ∈ S) (hbs : ∃ s ∈ S, B ≤ s.heap.size) (w : World)
    (hc : Cls (blk bt 198 (cat pC [a0, a1]) :: blk bm 160 m.c :: H) S w) :
    Calls Try.prog 171 [.pointer (some ⟨bm, 0, none⟩), .agg (inC i iy).toArray, .slice (some ⟨bt, 0, none⟩) 2 2].toArray w fun e w' =>
      ∃ v t m' it, e = .returned (.tuple #[.agg (pC v).toArray, .int .i64 t]) ∧ AlP S B a0 a1 m v t m' it ∧ Cls (it :: blk bt 198 (cat pC [a0, a1]) :: blk bm 160 m'.c :: H) S w' := by
  rw [cat2C] at hc ⊢
  refine enter Try.func171 rfl Try.ntmps171 rfl hc ?_
  (simp only [argEnv, Nat.zero_add, Nat.reduceAdd])
  unfold inC
  apply W.sr
  apply OL.box; rfl; rfl; exact CellsL.agg; (intro bk hbk; have hbk0 := hbk.mem s0 hs0)
  apply OL.alloc; rfl; rfl; exact CellsL.agg; (intro bk hbk; have hbk0 := hbk.mem s0 hs0)
  apply oas; rfl; rfl
  apply OL.nx
  apply W.seq
  apply W.sr
  apply ofa; rfl; rfl; rfl
  apply old; rfl; rfl; exact .tail _ (.head _); rfl; rfl
  apply OL.nx
  apply W.block
  apply W.sr
  apply obn; rfl; rfl; rfl; apply Bin.eql
  apply oas; rfl; rfl
  apply OL.nx
  rename_i b4 hb4 hb40
  revert hbk0
  revert bk
  intro b6 hb6 hb60
  (refine W.cnd (fun s1 => ?_) (fun s1 => ?_)) <;> (try (exfalso; first | omega | exact s1 trivial | contradiction))
  apply W.sr
  apply obn; rfl; rfl; rfl; apply Bin.eql
  apply oas; rfl; rfl
  apply OL.nx
  (refine W.cnd (fun s2 => ?_) (fun s2 => ?_)) <;> (try (exfalso; first | omega | exact s2 trivial | contradiction))
  apply W.seq
  obtain ⟨y0, hy0⟩ := AlP.ex S B a0 a1 m
  refine W.regany (X := XAl S B a0 a1 m) (fun x e => [(7, true, bif e 11 then .int .i64 x.t else .int .i64 0), (55, true, bif e 9 then .int .i64 x.t else x.old 55), (54, true, bif e 8 then .agg (pC x.v).toArray else x.old 54), (53, true, bif e 7 then .tuple #[.agg (pC x.v).toArray, .int .i64 x.t] else x.old 53), (52, true, bif e 6 then .agg (pC a1).toArray else x.old 52), (51, true, bif e 5 then .pointer (some ⟨bt, 0 + Int.toNat 1 * 4, none⟩) else x.old 51), (50, true, bif e 4 then .slice (some ⟨bt, 0, none⟩) 2 2 else x.old 50), (49, true, bif e 3 then .agg (pC a0).toArray else x.old 49), (48, true, bif e 2 then .pointer (some ⟨bt, 0 + Int.toNat 0 * 4, none⟩) else x.old 48), (47, true, bif e 1 then .slice (some ⟨bt, 0, none⟩) 2 2 else x.old 47), (46, true, bif e 0 then .pointer (some ⟨bm, 0, none⟩) else x.old 46), (0, true, .pointer (some ⟨bm, 0, none⟩)), (2, true, .slice (some ⟨bt, 0, none⟩) 2 2), (4, true, .pointer (some ⟨b4, 0, none⟩)), (6, true, .pointer (some ⟨b6, 0, none⟩))])
    (fun x e => (bif e 7 then x.it else nothing) :: (bif e 10 then blk b6 198 [.int .i64 x.v.k, .int .i64 x.v.n, .slice x.v.q x.v.l.length x.v.cap, .pointer (if x.v.k = 3 then some ⟨x.v.b, 0, none⟩ else none)] else blk b6 198 [.int .i64 0, .int .i64 0, .slice none 0 0, .pointer none]) :: (blk b4 85 [.int .i64 i.to_, .int .i64 i.op, .int .i64 i.n, .slice iy.1 i.args.length iy.2]) :: (blk bt 198 [.int .i64 a0.k, .int .i64 a0.n, .slice a0.q a0.l.length a0.cap, .pointer (if a0.k = 3 then some ⟨a0.b, 0, none⟩ else none), .int .i64 a1.k, .int .i64 a1.n, .slice a1.q a1.l.length a1.cap, .pointer (if a1.k = 3 then some ⟨a1.b, 0, none⟩ else none)]) :: (bif e 7 then blk bm 160 x.m.c else blk bm 160 m.c) :: H)
    (fun old => ⟨y0.1, y0.2.1, y0.2.2.1, y0.2.2.2, hy0, old⟩) (by kernel_rfl) (by kernel_rfl) (fun w hw => hw.drew) (fun old => by repeat (first | exact SubO.nil | apply SubO.cons rfl | refine SubO.old rfl ?_)) (fun old w' hw' => hw'.nothing_in) ?_ ?_
  · intro x e i o ho hei hd hcl
    have hi : i < 12 := (List.getElem?_eq_some_iff.1 ho).1
    obtain rfl | rfl | rfl | rfl | rfl | rfl | rfl | rfl | rfl | rfl | rfl | rfl : i = 0 ∨ i = 1 ∨ i = 2 ∨ i = 3 ∨ i = 4 ∨ i = 5 ∨ i = 6 ∨ i = 7 ∨ i = 8 ∨ i = 9 ∨ i = 10 ∨ i = 11 := by omega
    · cases ho
      have v0 : Eng.upd e 0 0 = true := upd_eq
      simp only [hei, cond_true, cond_false]
      apply omv; rfl; rfl
      apply OL.nil
      exact At.beside x (by repeat (first | exact Sub.nil | apply Sub.cons rfl | refine Sub.cons_eq rfl (by simp only [v0, cond_true, cond_false]) ?_)) (fun w' hw' => by first | exact hw' | (simp only [v0, cond_true, cond_false]; exact hw'))
    · cases ho
      have v1 : Eng.upd e 1 1 = true := upd_eq
      simp only [hei, cond_true, cond_false]
      apply omv; rfl; rfl
      apply OL.nil
      exact At.beside x (by repeat (first | exact Sub.nil | apply Sub.cons rfl | refine Sub.cons_eq rfl (by simp only [v1, cond_true, cond_false]) ?_)) (fun w' hw' => by first | exact hw' | (simp only [v1, cond_true, cond_false]; exact hw'))
    · cases ho
      have h1 : e 1 = true := hd ⟨1, .data⟩ (by simp) rfl
      have v2 : Eng.upd e 2 2 = true := upd_eq
      have v1 : Eng.upd e 2 1 = true := upd_mono h1
      simp only [hei, h1, cond_true, cond_false]
      apply oop; rfl; apply Pev.idxB; rfl; exact yes; rfl; exact yes; rfl; intro hcond; omega; rfl
      apply OL.nil
      exact At.beside x (by repeat (first | exact Sub.nil | apply Sub.cons rfl | refine Sub.cons_eq rfl (by simp only [v2, v1, cond_true, cond_false]) ?_)) (fun w' hw' => by first | exact hw' | (simp only [v2, v1, cond_true, cond_false]; exact hw'))
    · cases ho
      have h2 : e 2 = true := hd ⟨2, .data⟩ (by simp) rfl
      have v3 : Eng.upd e 3 3 = true := upd_eq
      have v2 : Eng.upd e 3 2 = true := upd_mono h2
      simp only [hei, h2, cond_true, cond_false]
      apply oop; rfl; apply Pev.load_blkA; rfl; exact yes; apply List.Mem.tail; exact .tail _ (.tail _ (.head _)); rfl; exact Take.au
      apply OL.nil
      exact At.beside x (by repeat (first | exact Sub.nil | apply Sub.cons rfl | refine Sub.cons_eq rfl (by simp only [v3, v2, cond_true, cond_false]) ?_)) (fun w' hw' => by first | exact hw' | (simp only [v3, v2, cond_true, cond_false]; exact hw'))
    · cases ho
      have v4 : Eng.upd e 4 4 = true := upd_eq
      simp only [hei, cond_true, cond_false]
      apply omv; rfl; rfl
      apply OL.nil
      exact At.beside x (by repeat (first | exact Sub.nil | apply Sub.cons rfl | refine Sub.cons_eq rfl (by simp only [v4, cond_true, cond_false]) ?_)) (fun w' hw' => by first | exact hw' | (simp only [v4, cond_true, cond_false]; exact hw'))
    · cases ho
      have h4 : e 4 = true := hd ⟨4, .data⟩ (by simp) rfl
      have v5 : Eng.upd e 5 5 = true := upd_eq
      have v4 : Eng.upd e 5 4 = true := upd_mono h4
      simp only [hei, h4, cond_true, cond_false]
      apply oop; rfl; apply Pev.idxB; rfl; exact yes; rfl; exact yes; rfl; intro hcond; omega; rfl
      apply OL.nil
      exact At.beside x (by repeat (first | exact Sub.nil | apply Sub.cons rfl | refine Sub.cons_eq rfl (by simp only [v5, v4, cond_true, cond_false]) ?_)) (fun w' hw' => by first | exact hw' | (simp only [v5, v4, cond_true, cond_false]; exact hw'))
    · cases ho
      have h5 : e 5 = true := hd ⟨5, .data⟩ (by simp) rfl
      have v6 : Eng.upd e 6 6 = true := upd_eq
      have v5 : Eng.upd e 6 5 = true := upd_mono h5
      simp only [hei, h5, cond_true, cond_false]
      apply oop; rfl; apply Pev.load_blkA; rfl; exact yes; apply List.Mem.tail; exact .tail _ (.tail _ (.head _)); rfl; exact Take.au
      apply OL.nil
      exact At.beside x (by repeat (first | exact Sub.nil | apply Sub.cons rfl | refine Sub.cons_eq rfl (by simp only [v6, v5, cond_true, cond_false]) ?_)) (fun w' hw' => by first | exact hw' | (simp only [v6, v5, cond_true, cond_false]; exact hw'))
    · cases ho
      have h0 : e 0 = true := hd ⟨0, .data⟩ (by simp) rfl
      have h3 : e 3 = true := hd ⟨3, .data⟩ (by simp) rfl
      have h6 : e 6 = true := hd ⟨6, .data⟩ (by simp) rfl
      have h8 : e 8 = false := hcl.not (i := 7) (j := 8) rfl hei (by kernel_rfl)
      have h9 : e 9 = false := hcl.not (i := 7) (j := 9) rfl hei (by kernel_rfl)
      have h10 : e 10 = false := hcl.not (i := 7) (j := 10) rfl hei (by kernel_rfl)
      have h11 : e 11 = false := hcl.not (i := 7) (j := 11) rfl hei (by kernel_rfl)
      have v7 : Eng.upd e 7 7 = true := upd_eq
      have v0 : Eng.upd e 7 0 = true := upd_mono h0
      have v3 : Eng.upd e 7 3 = true := upd_mono h3
      have v6 : Eng.upd e 7 6 = true := upd_mono h6
      have v8 : Eng.upd e 7 8 = false := h8
      have v9 : Eng.upd e 7 9 = false := h9
      have v10 : Eng.upd e 7 10 = false := h10
      have v11 : Eng.upd e 7 11 = false := h11
      simp only [hei, h0, h3, h6, h8, h9, h10, h11, cond_true, cond_false]
      refine OL.callE (α := PV × Int × MS × Eng.Item) (fun y => .tuple #[.agg (pC y.1).toArray, .int .i64 y.2.1]) (fun y => AlP S B a0 a1 m y.1 y.2.1 y.2.2.1 y.2.2.2) (fun y => Cls (y.2.2.2 :: blk b6 198 [.int .i64 0, .int .i64 0, .slice none 0 0, .pointer none] :: blk b4 85 [.int .i64 i.to_, .int .i64 i.op, .int .i64 i.n, .slice iy.1 i.args.length iy.2] :: blk bt 198 [.int .i64 a0.k, .int .i64 a0.n, .slice a0.q a0.l.length a0.cap, .pointer (if a0.k = 3 then some ⟨a0.b, 0, none⟩ else none), .int .i64 a1.k, .int .i64 a1.n, .slice a1.q a1.l.length a1.cap, .pointer (if a1.k = 3 then some ⟨a1.b, 0, none⟩ else none)] :: blk bm 160 y.2.2.1.c :: H) S) rfl rfl (by exact Args.au) (fun w2 hw2 => (alloc2_calls bm m a0 a1 B _ S hbs s0 hs0 hsh hl0 hl6 w2 hw2.nothing_out.out3).mono fun e w3 ⟨v, t, m', it, h1, h2, h3⟩ => ⟨(v, t, m', it), h1, h2, h3.perm (.cons _ (List.Perm.append_right H (List.perm_append_comm (l₁ := [_]) (l₂ := [_, _, _]))))⟩) ?_
      intro y hy
      apply OL.nil
      exact At.beside { x with v := y.1, t := y.2.1, m := y.2.2.1, it := y.2.2.2, ok := hy } (by repeat (first | exact Sub.nil | apply Sub.cons rfl | refine Sub.cons_eq rfl (by simp only [v7, v0, v3, v6, v8, v9, v10, v11, cond_true, cond_false]) ?_)) (fun w' hw' => by first | exact hw' | (simp only [v7, v0, v3, v6, v8, v9, v10, v11, cond_true, cond_false]; exact hw'))
    · cases ho
      have h7 : e 7 = true := hd ⟨7, .data⟩ (by simp) rfl
      have v8 : Eng.upd e 8 8 = true := upd_eq
      have v7 : Eng.upd e 8 7 = true := upd_mono h7
      simp only [hei, h7, cond_true, cond_false]
      apply oex; rfl; rfl; rfl
      apply OL.nil
      exact At.beside x (by repeat (first | exact Sub.nil | apply Sub.cons rfl | refine Sub.cons_eq rfl (by simp only [v8, v7, cond_true, cond_false]) ?_)) (fun w' hw' => by first | exact hw' | (simp only [v8, v7, cond_true, cond_false]; exact hw'))
    · cases ho
      have h7 : e 7 = true := hd ⟨7, .data⟩ (by simp) rfl
      have v9 : Eng.upd e 9 9 = true := upd_eq
      have v7 : Eng.upd e 9 7 = true := upd_mono h7
      simp only [hei, h7, cond_true, cond_false]
      apply oex; rfl; rfl; rfl
      apply OL.nil
      exact At.beside x (by repeat (first | exact Sub.nil | apply Sub.cons rfl | refine Sub.cons_eq rfl (by simp only [v9, v7, cond_true, cond_false]) ?_)) (fun w' hw' => by first | exact hw' | (simp only [v9, v7, cond_true, cond_false]; exact hw'))
    · cases ho
      have h8 : e 8 = true := hd ⟨8, .data⟩ (by simp) rfl
      have v10 : Eng.upd e 10 10 = true := upd_eq
      have v8 : Eng.upd e 10 8 = true := upd_mono h8
      simp only [hei, h8, cond_true, cond_false]
      apply OL.storeB; rfl; rfl; exact CellsL.agg; rfl; rfl; rfl; exact Swap.au; exact Put.au
      apply OL.nil
      exact At.beside x (by repeat (first | exact Sub.nil | apply Sub.cons rfl | refine Sub.cons_eq rfl (by simp only [v10, v8, cond_true, cond_false]) ?_)) (fun w' hw' => by first | exact hw' | (simp only [v10, v8, cond_true, cond_false]; exact hw'))
    · cases ho
      have h9 : e 9 = true := hd ⟨9, .data⟩ (by simp) rfl
      have h10 : e 10 = true := hd ⟨10, .chain⟩ (by simp) rfl
      have v11 : Eng.upd e 11 11 = true := upd_eq
      have v9 : Eng.upd e 11 9 = true := upd_mono h9
      have v10 : Eng.upd e 11 10 = true := upd_mono h10
      simp only [hei, h9, h10, cond_true, cond_false]
      apply oas; rfl; rfl
      apply OL.nil
      exact At.beside x (by repeat (first | exact Sub.nil | apply Sub.cons rfl | refine Sub.cons_eq rfl (by simp only [v11, v9, v10, cond_true, cond_false]) ?_)) (fun w' hw' => by first | exact hw' | (simp only [v11, v9, v10, cond_true, cond_false]; exact hw'))
  · intro x e hall
    obtain ⟨v, t, m', it, hok, old⟩ := x
    simp only [hall 0 (by decide), hall 1 (by decide), hall 2 (by decide), hall 3 (by decide), hall 4 (by decide), hall 5 (by decide), hall 6 (by decide), hall 7 (by decide), hall 8 (by decide), hall 9 (by decide), hall 10 (by decide), hall 11 (by decide), cond_true, cond_false]
    with_reducible apply At.next
    refine W.rt ?_
    exact At.finCT (b := b6) (cs := [.int .i64 v.k, .int .i64 v.n, .slice v.q v.l.length v.cap, .pointer (if v.k = 3 then some ⟨v.b, 0, none⟩ else none)]) rfl rfl (by exact mau) rfl rfl rfl (fun w' hw' => ⟨v, t, m', it, rfl, hok, hw'.thin (.keep (.any (fun k hk => by rw [show k = b6 from hk]; exact hb6) (.any (fun k hk => by rw [show k = b4 from hk]; exact hb4) Thin.same)))⟩)
end Go.Proofs.Ytehelljmaiophaa.ss

/- What an instruction of ssa's machine that is no call does: the state, its memory, and what holds of both. Conditions: none. -/
namespace Go.Ss
open Go.Eng Go.RowKit
structure AR where
  bx : Nat
  cb : Nat
  xs : List PV
structure XS where
  m : MS
  out : List Int
  Oo : Nat → Prop
  L : List (PV × Unit)
  Op : Nat → Prop
  A : List AR
def XS.bs (x : XS) : List Nat := x.A.map AR.bx
structure XOk (x : XS) (sA : List (List SV)) : Prop where
  no : x.m.no = x.out.length
  ol : x.out.length ≤ 1000
  al : x.A.length = sA.length
  ar : ∀ (j : Nat) a, x.A[j]? = some a → ∃ l, sA[j]? = some l ∧ Ers (bxN x.bs) a.xs l
  ai : ∀ a ∈ x.A, ∀ p ∈ a.xs, InP x.L p
  a1 : ∀ a ∈ x.A, a.xs.length ≤ 1024
  sh : x.m.sh = false
  l0 : 0 ≤ x.m.left
  l6 : x.m.left ≤ 1000000
structure MSame (m m' : MS) : Prop where
  qF : m'.qF = m.qF
  nF : m'.nF = m.nF
  cF : m'.cF = m.cF
  main : m'.main = m.main
  qs : m'.qs = m.qs
  ns : m'.ns = m.ns
  cs : m'.cs = m.cs
  ov : m'.ov = m.ov
  en : m'.en = m.en
  va : m'.va = m.va
theorem MSame.refl (m : MS) : MSame m m := ⟨rfl, rfl, rfl, rfl, rfl, rfl, rfl, rfl, rfl, rfl⟩
def VIn (L : List (PV × Unit)) (vs : List PV) (bt : Nat) (v : PV) : Prop := InP L v ∨ (v.q = some ⟨bt, 0, none⟩ ∧ v.l = vs)
def ExR (r : Rs) (x x' : XS) (vs : List PV) (bt : Nat) (v : PV) (t : Int) : Prop := match r with
  | .trap t' => t = t' ∧ x' = x
  | .ok sv sA' out' c => t = 0 ∧ ((x.m.left < (c : Int) ∧ x'.m.sh = true ∧ x'.m.ov = true) ∨
      ((c : Int) ≤ x.m.left ∧ XOk x' sA' ∧ x'.out = out' ∧ MSame x.m x'.m ∧ x'.m.left = x.m.left - c ∧ Er (bxN x'.bs) v sv ∧ (∃ ex, x'.bs = x.bs ++ ex) ∧ (∀ r ∈ x.L, r ∈ x'.L) ∧ VIn x'.L vs bt v))
theorem ExR.val {sv : SV} {sA : List (List SV)} {x : XS} {vs : List PV} {bt : Nat} {v : PV} (hx : XOk x sA) (hv : Er (bxN x.bs) v sv) (hin : VIn x.L vs bt v) : ExR (.ok sv sA x.out 0) x x vs bt v 0 :=
  ⟨rfl, .inr ⟨hx.l0, hx, rfl, MSame.refl _, by simp, hv, ⟨[], by simp⟩, fun _ h => h, hin⟩⟩
theorem erw {bx : List Nat} (n : Int) : Er (bxN bx) (pw n) (wV n) := Er.of (by unfold bxN; rw [if_neg (by decide)]) Ers.nil
theorem Er.num {bx : List Nat} {p : PV} {v : SV} (h : Er (bxN bx) p v) (hk : p.k ≠ 3) : p.n = v.n := by
  have := h.n
  unfold bxN at this
  rwa [if_neg hk] at this
theorem Er.box {bx : List Nat} {p : PV} {v : SV} (h : Er (bxN bx) p v) (hk : p.k = 3) : 0 ≤ v.n ∧ bx[v.n.toNat]? = some p.b := by
  have := h.n
  unfold bxN at this
  rwa [if_pos hk] at this
theorem Ers.one {N : Int → Int → Nat → Int → Prop} {ps : List PV} {vs : List SV} (h : Ers N ps vs) (hl : ps.length = 1) : ∃ p v, ps = [p] ∧ vs = [v] ∧ Er N p v := by
  match ps, hl with
  | [p], _ =>
    match vs, h with
    | [v], h => simp only [Ers] at h; exact ⟨p, v, rfl, rfl, h.1⟩
theorem Ers.two {N : Int → Int → Nat → Int → Prop} {ps : List PV} {vs : List SV} (h : Ers N ps vs) (hl : ps.length = 2) : ∃ p q v u, ps = [p, q] ∧ vs = [v, u] ∧ Er N p v ∧ Er N q u := by
  match ps, hl with
  | [p, q], _ =>
    match vs, h with
    | [v, u], h => simp only [Ers] at h; exact ⟨p, q, v, u, rfl, rfl, h.1, h.2.1⟩
theorem Ers.three {N : Int → Int → Nat → Int → Prop} {ps : List PV} {vs : List SV} (h : Ers N ps vs) (hl : ps.length = 3) : ∃ p q r v u x, ps = [p, q, r] ∧ vs = [v, u, x] ∧ Er N p v ∧ Er N q u ∧ Er N r x := by
  match ps, hl with
  | [p, q, r], _ =>
    match vs, h with
    | [v, u, x], h => simp only [Ers] at h; exact ⟨p, q, r, v, u, x, rfl, rfl, h.1, h.2.1, h.2.2.1⟩
theorem Ers.allK {bx : List Nat} {k : Int} : ∀ {ps : List PV} {vs : List SV}, Ers (bxN bx) ps vs → (ps.all fun p => decide (p.k = k)) = allK k vs
  | [], [], _ => rfl
  | p :: ps, v :: vs, h => by
    simp only [Ers] at h
    have := Ers.allK (k := k) h.2
    simp only [Go.Ss.allK, List.all_cons] at this ⊢
    rw [this, h.1.k]
  | [], _ :: _, h => by simp only [Ers] at h
  | _ :: _, [], h => by simp only [Ers] at h
theorem form_args {i : In} (h : formE i = 0) : (i.op = 0 → i.args.length = 0) ∧ ((1 ≤ i.op ∧ i.op ≤ 7 ∨ i.op = 16 ∨ i.op = 18 ∨ i.op = 19 ∨ i.op = 21 ∨ i.op = 23) → i.args.length = 2) ∧ (i.op = 20 → i.args.length = 3) ∧ ((i.op = 10 ∨ i.op = 11 ∨ i.op = 12 ∨ i.op = 15 ∨ i.op = 17 ∨ i.op = 24) → i.args.length = 1) ∧ i.args.length ≤ 16 ∧ (0 ≤ i.op ∧ i.op ≤ 24) := by
  obtain ⟨m, h1, h2, h3, h4, h5, h6⟩ := form_zero h
  unfold opsN at h1
  split at h1
  · obtain rfl := Option.some.inj h1
    have := h2 (by omega)
    omega
  split at h1
  · obtain rfl := Option.some.inj h1
    have := h2 (by omega)
    omega
  split at h1
  · obtain rfl := Option.some.inj h1
    have := h2 (by omega)
    omega
  split at h1
  · obtain rfl := Option.some.inj h1
    have := h2 (by omega)
    omega
  split at h1
  · rename_i h7
    have : i.args.length ≤ 16 := by
      by_cases h8 : i.op = 8 ∨ i.op = 9
      · exact h4 h8
      · have := h5 (by omega); omega
    omega
  split at h1
  · obtain rfl := Option.some.inj h1
    have := h2 (by omega)
    omega
  · cases h1
theorem num_range {i : In} (h : formE i = 0) : ((i.op = 11 ∨ i.op = 24) → 0 ≤ i.n) ∧ (i.op = 23 → i.n = 1 ∨ i.n = 2 ∨ i.n = 3) := by
  obtain ⟨m, h1, h2, h3, h4, h5, h6⟩ := form_zero h
  refine ⟨fun ho => ?_, fun ho => ?_⟩
  · unfold numB at h6
    rcases ho with ho | ho
    · rw [if_neg (by omega), if_neg (by omega), if_pos ho] at h6
      simp only [Bool.and_eq_true, decide_eq_true_eq] at h6
      exact h6.1
    · rw [if_neg (by omega), if_neg (by omega), if_neg (by omega), if_neg (by omega), if_pos ho] at h6
      simp only [Bool.and_eq_true, decide_eq_true_eq] at h6
      exact h6.1
  · unfold numB at h6
    rw [if_neg (by omega), if_neg (by omega), if_neg (by omega), if_pos ho] at h6
    simp only [Bool.or_eq_true, decide_eq_true_eq] at h6
    omega
end Go.Ss
namespace Go.Proofs.Ytehelljmaiophaa.ss
open Go.Eng Go.RowKit Go.Ss
def arIt (a : AR) : List Eng.Item := [blk a.bx 191 [.slice (some ⟨a.cb, 0, none⟩) a.xs.length a.xs.length], blk a.cb 198 (cat pC a.xs)]
def arI (A : List AR) : List Eng.Item := A.flatMap arIt
def xI (B bm : Nat) (x : XS) (H : List Eng.Item) : List Eng.Item := blk bm 160 x.m.c :: row B x.Oo x.m.qo x.m.no x.m.co 3 1 (ints x.out) :: pool (pvR pF) B x.Op x.L :: bag B (arI x.A) :: H
theorem arI_split {A : List AR} {j : Nat} {a : AR} (h : A[j]? = some a) : (arI A).Perm (arIt a ++ arI (A.eraseIdx j)) := by
  induction A generalizing j with
  | nil => simp at h
  | cons b A ih =>
    cases j with
    | zero =>
      obtain rfl := Option.some.inj h
      exact List.Perm.refl _
    | succ j =>
      have h1 := ih (j := j) h
      show (arIt b ++ arI A).Perm (arIt a ++ (arIt b ++ arI (A.eraseIdx j)))
      refine (List.Perm.append_left _ h1).trans ?_
      rw [← List.append_assoc, ← List.append_assoc]
      exact List.Perm.append_right _ List.perm_append_comm
theorem set_erase {A : List AR} {j : Nat} (a : AR) : (A.set j a).eraseIdx j = A.eraseIdx j := by
  induction A generalizing j with
  | nil => rfl
  | cons b A ih =>
    cases j with
    | zero => rfl
    | succ j => show b :: _ = b :: _; rw [← ih (j := j)]
theorem ar_out {B : Nat} {A : List AR} {j : Nat} {a : AR} {H : List Eng.Item} {S : List World} {w : World} (hj : A[j]? = some a) (h : Cls (bag B (arI A) :: H) S w) : Cls (blk a.bx 191 [.slice (some ⟨a.cb, 0, none⟩) a.xs.length a.xs.length] :: blk a.cb 198 (cat pC a.xs) :: bag B (arI (A.eraseIdx j)) :: H) S w := by
  have h1 : Cls (bag B (blk a.bx 191 [.slice (some ⟨a.cb, 0, none⟩) a.xs.length a.xs.length] :: blk a.cb 198 (cat pC a.xs) :: arI (A.eraseIdx j)) :: H) S w := h.bag_perm (arI_split hj)
  exact ((h1.bag_out.perm (List.Perm.swap _ _ _)).bag_out.perm ((List.perm_append_comm (l₁ := [_, _]) (l₂ := [_])).append_right _))
theorem ar_in {B : Nat} {A : List AR} {j : Nat} {a : AR} {H : List Eng.Item} {S : List World} {w : World} (hj : j < A.length) (hb : B ≤ a.bx) (hc : B ≤ a.cb) (h : Cls (blk a.bx 191 [.slice (some ⟨a.cb, 0, none⟩) a.xs.length a.xs.length] :: blk a.cb 198 (cat pC a.xs) :: bag B (arI (A.eraseIdx j)) :: H) S w) : Cls (bag B (arI (A.set j a)) :: H) S w := by
  have h1 := (h.perm ((List.perm_append_comm (l₁ := [_]) (l₂ := [_, _])).append_right _) : Cls (blk a.cb 198 (cat pC a.xs) :: bag B (arI (A.eraseIdx j)) :: blk a.bx 191 [.slice (some ⟨a.cb, 0, none⟩) a.xs.length a.xs.length] :: H) S w).bag_in (fun k hk => by rw [show k = a.cb from hk]; exact hc)
  have h2 := (h1.perm (List.Perm.swap _ _ _)).bag_in (fun k hk => by rw [show k = a.bx from hk]; exact hb)
  refine h2.bag_perm ?_
  have e := arI_split (A := A.set j a) (j := j) (a := a) (by rw [List.getElem?_set_self hj])
  rw [set_erase] at e
  exact e.symm
theorem arI_snoc (A : List AR) (a : AR) : arI (A ++ [a]) = arI A ++ arIt a := by simp [arI]
theorem ar_lo {B : Nat} {A : List AR} {H : List Eng.Item} {S : List World} {w : World} (h : Cls (bag B (arI A) :: H) S w) : ∀ a ∈ A, B ≤ a.bx ∧ B ≤ a.cb := by
  intro a ha
  obtain ⟨hb, _⟩ := h.holds _ (.head _)
  have m1 : blk a.bx 191 [.slice (some ⟨a.cb, 0, none⟩) a.xs.length a.xs.length] ∈ arI A := List.mem_flatMap.2 ⟨a, ha, by simp [arIt]⟩
  have m2 : blk a.cb 198 (cat pC a.xs) ∈ arI A := List.mem_flatMap.2 ⟨a, ha, by simp [arIt]⟩
  exact ⟨(hb _ m1).2 _ rfl, (hb _ m2).2 _ rfl⟩
end Go.Proofs.Ytehelljmaiophaa.ss

/- The walk of ssa's exec. Conditions: none. -/
namespace Go.Ss
open Go.Eng Go.RowKit
theorem insP_bin {op n : Int} {l : List SV} {A : List (List SV)} {out : List Int} (h : 1 ≤ op ∧ op ≤ 7) : insP op n l A out = if allK 0 l = false then .trap 5 else if (op = 4 ∨ op = 5) ∧ (l.getD 1 zV).n = 0 then .trap 1 else .ok (wV (binV op (l.getD 0 zV).n (l.getD 1 zV).n)) A out 0 := by
  unfold insP insQ
  rw [if_neg (by omega), if_pos h]
theorem argsAt {bt : Nat} {e : TypeId} {vs : List PV} {x : XS} {B : Nat} {H : List Eng.Item} {S : List World} {w : World} (h : Cls H S w) (h1 : blk bt e (cat pC vs) ∈ H) (h2 : pool (pvR pF) B x.Op x.L ∈ H) (hin : ∀ p ∈ vs, InP x.L p) : Arr (pvR pF) w (low w) (us vs) (some ⟨bt, 0, none⟩) :=
  argArr (h.item h1) (fun p hp => PVO.mono (fun k hk => h.lt _ h2 k hk) ((hin p hp).ok (h.item h2)))
section
variable {x : XS} {sA : List (List SV)} {n t : Int} {p0 p1 v : PV} {v0 v1 : SV} {bt : Nat} {vs : List PV}
theorem Er.lkid {bx : List Nat} {p : PV} {v : SV} (h : Er (bxN bx) p v) (n : Int) : Er (bxN bx) (p.l.getD n.toNat zP) (v.l.getD n.toNat zV) := h.l.getD bxN.z _
theorem InP.getD {L : List (PV × Unit)} {p : PV} (h : InP L p) (i : Nat) : InP L (p.l.getD i zP) := by
  rw [List.getD_eq_getElem?_getD]
  cases hi : p.l[i]? with
  | none => exact .inl rfl
  | some c => exact h.kid (List.mem_of_getElem? hi)
theorem ex_10 (hx : XOk x sA) (he0 : Er (bxN x.bs) p0 v0) (hv : objA 10 n p0 zP = (v, t)) (hin0 : InP x.L p0) : ExR (insP 10 n [v0] sA x.out) x x vs bt v t := by
  unfold objA at hv
  rw [if_neg (by decide)] at hv
  show ExR (if v0.k = 1 then .ok (wV v0.n) sA x.out 0 else .trap 5) x x vs bt v t
  rw [← he0.k]
  by_cases hk : p0.k = 1
  · rw [if_neg (by omega), if_pos rfl] at hv
    obtain ⟨rfl, rfl⟩ := Prod.mk.inj hv
    rw [if_pos hk, ← he0.num (by omega)]
    exact ExR.val hx (erw _) (.inl (.inl rfl))
  · rw [if_pos hk] at hv
    obtain ⟨rfl, rfl⟩ := Prod.mk.inj hv
    rw [if_neg hk]
    exact ⟨rfl, rfl⟩
theorem ex_11 (hx : XOk x sA) (he0 : Er (bxN x.bs) p0 v0) (hv : objA 11 n p0 zP = (v, t)) (hin0 : InP x.L p0) : ExR (insP 11 n [v0] sA x.out) x x vs bt v t := by
  unfold objA at hv
  rw [if_pos rfl] at hv
  show ExR (if (v0.k = 1 ∨ v0.k = 2) ∧ n < (v0.l.length : Int) then .ok (v0.l.getD n.toNat zV) sA x.out 0 else .trap 5) x x vs bt v t
  rw [← he0.k, ← he0.l.len]
  by_cases hk : (p0.k = 1 ∨ p0.k = 2) ∧ n < (p0.l.length : Int)
  · rw [if_pos hk] at hv
    obtain ⟨rfl, rfl⟩ := Prod.mk.inj hv
    rw [if_pos hk]
    exact ExR.val hx (he0.lkid n) (.inl (hin0.getD _))
  · rw [if_neg hk] at hv
    obtain ⟨rfl, rfl⟩ := Prod.mk.inj hv
    rw [if_neg hk]
    exact ⟨rfl, rfl⟩
theorem ex_12 (hx : XOk x sA) (he0 : Er (bxN x.bs) p0 v0) (hv : objA 12 n p0 zP = (v, t)) (hin0 : InP x.L p0) : ExR (insP 12 n [v0] sA x.out) x x vs bt v t := by
  unfold objA at hv
  rw [if_neg (by decide)] at hv
  show ExR (if v0.k = 1 then .ok (wV v0.l.length) sA x.out 0 else .trap 5) x x vs bt v t
  rw [← he0.k, ← he0.l.len]
  by_cases hk : p0.k = 1
  · rw [if_neg (by omega), if_neg (by decide), if_pos rfl] at hv
    obtain ⟨rfl, rfl⟩ := Prod.mk.inj hv
    rw [if_pos hk]
    exact ExR.val hx (erw _) (.inl (.inl rfl))
  · rw [if_pos hk] at hv
    obtain ⟨rfl, rfl⟩ := Prod.mk.inj hv
    rw [if_neg hk]
    exact ⟨rfl, rfl⟩
theorem ex_21 (hx : XOk x sA) (he0 : Er (bxN x.bs) p0 v0) (he1 : Er (bxN x.bs) p1 v1) (hv : objA 21 n p0 p1 = (v, t)) (hin0 : InP x.L p0) : ExR (insP 21 n [v0, v1] sA x.out) x x vs bt v t := by
  unfold objA at hv
  rw [if_neg (by decide)] at hv
  show ExR (if v0.k ≠ 1 ∨ v1.k ≠ 0 then .trap 5 else if v1.n < 0 ∨ (v0.l.length : Int) ≤ v1.n then .trap 2 else .ok (v0.l.getD v1.n.toNat zV) sA x.out 0) x x vs bt v t
  rw [← he0.k, ← he1.k, ← he0.l.len]
  by_cases hk : p0.k = 1
  · rw [if_neg (by omega), if_neg (by decide), if_neg (by decide)] at hv
    by_cases hk1 : p1.k = 0
    · rw [if_neg (by omega)] at hv
      rw [if_neg (by omega), ← he1.num (by omega)]
      by_cases hb : p1.n < 0 ∨ (p0.l.length : Int) ≤ p1.n
      · rw [if_pos hb] at hv ⊢
        obtain ⟨rfl, rfl⟩ := Prod.mk.inj hv
        exact ⟨rfl, rfl⟩
      · rw [if_neg hb] at hv ⊢
        obtain ⟨rfl, rfl⟩ := Prod.mk.inj hv
        exact ExR.val hx (he0.lkid _) (.inl (hin0.getD _))
    · rw [if_pos hk1] at hv
      obtain ⟨rfl, rfl⟩ := Prod.mk.inj hv
      rw [if_pos (by omega)]
      exact ⟨rfl, rfl⟩
  · rw [if_pos hk] at hv
    obtain ⟨rfl, rfl⟩ := Prod.mk.inj hv
    rw [if_pos (.inl hk)]
    exact ⟨rfl, rfl⟩
end
end Go.Ss
namespace Go.Proofs.Ytehelljmaiophaa.ss
set_option maxRecDepth 100000
open Go.Eng Go.RowKit Go.Ss
theorem exec_0 (bm : Nat) (i : Go.Ss.In) (iy : Sc) (hform : formE i = 0) (hop : i.op = 0) (vs : List PV) (svs : List SV) (x : XS) (sA : List (List SV)) (hx : XOk x sA) (hvl : vs.length = i.args.length) (bt : Nat) (hE : Ers (bxN x.bs) vs svs) (hin : ∀ p ∈ vs, InP x.L p) (nf : Nat) (hwf : ∀ v ∈ svs, WfV nf sA.length v) (H : List Eng.Item) (S : List World) (s0 : World) (hs0 : s0 ∈ S) (w : World)
    (hc : Cls (blk bt 198 (cat pC vs) :: xI s0.heap.size bm x H) S w) :
    Calls Try.prog 141 [.pointer (some ⟨bm, 0, none⟩), .agg (inC i iy).toArray, .slice (some ⟨bt, 0, none⟩) vs.length vs.length].toArray w fun e w' =>
      ∃ v t x', e = .returned (.tuple #[.agg (pC v).toArray, .int .i64 t]) ∧ ExR (insP i.op i.n svs sA x.out) x x' vs bt v t ∧ Cls (blk bt 198 (cat pC vs) :: xI s0.heap.size bm x' H) S w' := by
  have hbs : ∃ s ∈ S, s0.heap.size ≤ s.heap.size := ⟨s0, hs0, Nat.le_refl _⟩
  obtain ⟨fa0, fa2, fa3, fa1, fa16, _⟩ := form_args hform
  obtain ⟨fn1, fn2⟩ := num_range hform
  unfold xI at hc ⊢
  refine enter Try.func141 rfl Try.ntmps141 rfl hc ?_
  (simp only [argEnv, Nat.zero_add, Nat.reduceAdd])
  unfold inC
  apply W.sr
  apply OL.box; rfl; rfl; exact CellsL.agg; (intro bk hbk; have hbk0 := hbk.mem s0 hs0)
  apply OL.alloc; rfl; rfl; exact CellsL.agg; (intro bk hbk; have hbk0 := hbk.mem s0 hs0)
  apply oas; rfl; rfl
  apply OL.nx
  apply W.seq
  apply W.sr
  apply ofa; rfl; rfl; rfl
  apply old; rfl; rfl; exact .tail _ (.head _); rfl; rfl
  apply OL.nx
  apply W.block
  apply W.sr
  apply obn; rfl; rfl; rfl; apply Bin.eql
  apply oas; rfl; rfl
  apply OL.nx
  rename_i b4 hb4 hb40
  revert hbk0
  revert bk
  intro b6 hb6 hb60
  (refine W.cnd (fun hq0 => ?_) (fun hq0 => ?_)) <;> (try (exfalso; first | omega | exact hq0 trivial | contradiction))
  apply W.sr
  apply ofa; rfl; rfl; rfl
  apply old; rfl; rfl; exact .tail _ (.head _); rfl; rfl
  (((first | (with_reducible apply OL.op) | (with_reducible apply QL.op)); (exact Guard.au); rfl; rfl); (exact Pev.call rfl (by exact Args.au) (fun _ w2 hw2 => (wordOf_calls _ w2).mono (fun e w3 h => ⟨h.1, hw2.ext h.2⟩))))
  apply OL.storeB; rfl; rfl; exact CellsL.agg; rfl; rfl; rfl; exact Swap.au; exact Put.au
  apply oas; rfl; rfl
  apply OL.nx
  refine W.rt ?_
  exact At.finCT (b := b6) (cs := [.int .i64 0, .int .i64 i.n, .slice none 0 0, .pointer none]) rfl rfl (by exact mau) rfl rfl rfl (fun w' hw' => ⟨pw i.n, 0, x, rfl, by rw [hop]; exact ExR.val hx (erw _) (.inl (.inl rfl)), hw'.thin (.any (fun k hk => by rw [show k = b6 from hk]; exact hb6) (.any (fun k hk => by rw [show k = b4 from hk]; exact hb4) Thin.same))⟩)
theorem exec_8 (bm : Nat) (i : Go.Ss.In) (iy : Sc) (hform : formE i = 0) (hop : i.op = 8) (vs : List PV) (svs : List SV) (x : XS) (sA : List (List SV)) (hx : XOk x sA) (hvl : vs.length = i.args.length) (bt : Nat) (hE : Ers (bxN x.bs) vs svs) (hin : ∀ p ∈ vs, InP x.L p) (nf : Nat) (hwf : ∀ v ∈ svs, WfV nf sA.length v) (H : List Eng.Item) (S : List World) (s0 : World) (hs0 : s0 ∈ S) (w : World)
    (hc : Cls (blk bt 198 (cat pC vs) :: xI s0.heap.size bm x H) S w) :
    Calls Try.prog 141 [.pointer (some ⟨bm, 0, none⟩), .agg (inC i iy).toArray, .slice (some ⟨bt, 0, none⟩) vs.length vs.length].toArray w fun e w' =>
      ∃ v t x', e = .returned (.tuple #[.agg (pC v).toArray, .int .i64 t]) ∧ ExR (insP i.op i.n svs sA x.out) x x' vs bt v t ∧ Cls (blk bt 198 (cat pC vs) :: xI s0.heap.size bm x' H) S w' := by
  have hbs : ∃ s ∈ S, s0.heap.size ≤ s.heap.size := ⟨s0, hs0, Nat.le_refl _⟩
  obtain ⟨fa0, fa2, fa3, fa1, fa16, _⟩ := form_args hform
  obtain ⟨fn1, fn2⟩ := num_range hform
  unfold xI at hc ⊢
  refine enter Try.func141 rfl Try.ntmps141 rfl hc ?_
  (simp only [argEnv, Nat.zero_add, Nat.reduceAdd])
  unfold inC
  apply W.sr
  apply OL.box; rfl; rfl; exact CellsL.agg; (intro bk hbk; have hbk0 := hbk.mem s0 hs0)
  apply OL.alloc; rfl; rfl; exact CellsL.agg; (intro bk hbk; have hbk0 := hbk.mem s0 hs0)
  apply oas; rfl; rfl
  apply OL.nx
  apply W.seq
  apply W.sr
  apply ofa; rfl; rfl; rfl
  apply old; rfl; rfl; exact .tail _ (.head _); rfl; rfl
  apply OL.nx
  apply W.block
  apply W.sr
  apply obn; rfl; rfl; rfl; apply Bin.eql
  apply oas; rfl; rfl
  apply OL.nx
  rename_i b4 hb4 hb40
  revert hbk0
  revert bk
  intro b6 hb6 hb60
  (refine W.cnd (fun hq0 => ?_) (fun hq0 => ?_)) <;> (try (exfalso; first | omega | exact hq0 trivial | contradiction))
  apply W.seq
  apply W.sr
  apply obn; rfl; rfl; rfl; apply Bin.eql
  apply oas; rfl; rfl
  apply OL.nx
  (refine W.cnd (fun hq1 => ?_) (fun hq1 => ?_)) <;> (try (exfalso; first | omega | exact hq1 trivial | contradiction))
  apply W.sr
  apply obn; rfl; rfl; rfl; apply Bin.eql
  apply oas; rfl; rfl
  apply OL.nx
  (refine W.cnd (fun hq2 => ?_) (fun hq2 => ?_)) <;> (try (exfalso; first | omega | exact hq2 trivial | contradiction))
  apply W.sr
  apply obn; rfl; rfl; rfl; apply Bin.eql
  apply oas; rfl; rfl
  apply OL.nx
  (refine W.cnd (fun hq3 => ?_) (fun hq3 => ?_)) <;> (try (exfalso; first | omega | exact hq3 trivial | contradiction))
  apply W.sr
  apply obn; rfl; rfl; rfl; apply Bin.eql
  apply oas; rfl; rfl
  apply OL.nx
  (refine W.cnd (fun hq4 => ?_) (fun hq4 => ?_)) <;> (try (exfalso; first | omega | exact hq4 trivial | contradiction))
  apply W.sr
  apply obn; rfl; rfl; rfl; apply Bin.eql
  apply oas; rfl; rfl
  apply OL.nx
  (refine W.cnd (fun hq5 => ?_) (fun hq5 => ?_)) <;> (try (exfalso; first | omega | exact hq5 trivial | contradiction))
  apply W.sr
  apply obn; rfl; rfl; rfl; apply Bin.eql
  apply oas; rfl; rfl
  apply OL.nx
  (refine W.cnd (fun hq6 => ?_) (fun hq6 => ?_)) <;> (try (exfalso; first | omega | exact hq6 trivial | contradiction))
  apply W.reg
  apply obn; rfl; rfl; rfl; apply Bin.eql
  apply oas; rfl; rfl
  apply OL.nx
  (refine W.cnd (fun hq7 => ?_) (fun hq7 => ?_)) <;> (try (exfalso; first | omega | exact hq7 trivial | contradiction))
  apply W.sr
  apply obn; rfl; rfl; rfl; apply Bin.eql
  apply oas; rfl; rfl
  apply OL.nx
  (refine W.cnd (fun hq8 => ?_) (fun hq8 => ?_)) <;> (try (exfalso; first | omega | exact hq8 trivial | contradiction))
  apply W.sr
  apply ofa; rfl; rfl; rfl
  apply old; rfl; rfl; exact .tail _ (.head _); rfl; rfl
  apply omv; rfl; rfl
  apply oop; rfl; apply Pev.build; rfl; exact CellsL.agg; rfl; exact Fill.au; rfl
  apply OL.storeB; rfl; rfl; exact CellsL.agg; rfl; rfl; rfl; exact Swap.au; exact Put.au
  apply oas; rfl; rfl
  apply OL.nx
  refine W.rt ?_
  exact At.finCT (b := b6) (cs := [.int .i64 1, .int .i64 i.n, .slice (some ⟨bt, 0, none⟩) vs.length vs.length, .pointer none]) rfl rfl (by exact mau) rfl rfl rfl (fun w' hw' => ⟨.mk 1 i.n (some ⟨bt, 0, none⟩) vs.length 0 vs, 0, x, rfl, by rw [hop]; exact ExR.val hx (Er.of (by unfold bxN; rw [if_neg (by decide)]) hE) (.inr ⟨rfl, rfl⟩), hw'.thin (.any (fun k hk => by rw [show k = b6 from hk]; exact hb6) (.any (fun k hk => by rw [show k = b4 from hk]; exact hb4) Thin.same))⟩)
theorem exec_9 (bm : Nat) (i : Go.Ss.In) (iy : Sc) (hform : formE i = 0) (hop : i.op = 9) (vs : List PV) (svs : List SV) (x : XS) (sA : List (List SV)) (hx : XOk x sA) (hvl : vs.length = i.args.length) (bt : Nat) (hE : Ers (bxN x.bs) vs svs) (hin : ∀ p ∈ vs, InP x.L p) (nf : Nat) (hwf : ∀ v ∈ svs, WfV nf sA.length v) (H : List Eng.Item) (S : List World) (s0 : World) (hs0 : s0 ∈ S) (w : World)
    (hc : Cls (blk bt 198 (cat pC vs) :: xI s0.heap.size bm x H) S w) :
    Calls Try.prog 141 [.pointer (some ⟨bm, 0, none⟩), .agg (inC i iy).toArray, .slice (some ⟨bt, 0, none⟩) vs.length vs.length].toArray w fun e w' =>
      ∃ v t x', e = .returned (.tuple #[.agg (pC v).toArray, .int .i64 t]) ∧ ExR (insP i.op i.n svs sA x.out) x x' vs bt v t ∧ Cls (blk bt 198 (cat pC vs) :: xI s0.heap.size bm x' H) S w' := by
  have hbs : ∃ s ∈ S, s0.heap.size ≤ s.heap.size := ⟨s0, hs0, Nat.le_refl _⟩
  obtain ⟨fa0, fa2, fa3, fa1, fa16, _⟩ := form_args hform
  obtain ⟨fn1, fn2⟩ := num_range hform
  unfold xI at hc ⊢
  refine enter Try.func141 rfl Try.ntmps141 rfl hc ?_
  (simp only [argEnv, Nat.zero_add, Nat.reduceAdd])
  unfold inC
  apply W.sr
  apply OL.box; rfl; rfl; exact CellsL.agg; (intro bk hbk; have hbk0 := hbk.mem s0 hs0)
  apply OL.alloc; rfl; rfl; exact CellsL.agg; (intro bk hbk; have hbk0 := hbk.mem s0 hs0)
  apply oas; rfl; rfl
  apply OL.nx
  apply W.seq
  apply W.sr
  apply ofa; rfl; rfl; rfl
  apply old; rfl; rfl; exact .tail _ (.head _); rfl; rfl
  apply OL.nx
  apply W.block
  apply W.sr
  apply obn; rfl; rfl; rfl; apply Bin.eql
  apply oas; rfl; rfl
  apply OL.nx
  rename_i b4 hb4 hb40
  revert hbk0
  revert bk
  intro b6 hb6 hb60
  (refine W.cnd (fun hq0 => ?_) (fun hq0 => ?_)) <;> (try (exfalso; first | omega | exact hq0 trivial | contradiction))
  apply W.seq
  apply W.sr
  apply obn; rfl; rfl; rfl; apply Bin.eql
  apply oas; rfl; rfl
  apply OL.nx
  (refine W.cnd (fun hq1 => ?_) (fun hq1 => ?_)) <;> (try (exfalso; first | omega | exact hq1 trivial | contradiction))
  apply W.sr
  apply obn; rfl; rfl; rfl; apply Bin.eql
  apply oas; rfl; rfl
  apply OL.nx
  (refine W.cnd (fun hq2 => ?_) (fun hq2 => ?_)) <;> (try (exfalso; first | omega | exact hq2 trivial | contradiction))
  apply W.sr
  apply obn; rfl; rfl; rfl; apply Bin.eql
  apply oas; rfl; rfl
  apply OL.nx
  (refine W.cnd (fun hq3 => ?_) (fun hq3 => ?_)) <;> (try (exfalso; first | omega | exact hq3 trivial | contradiction))
  apply W.sr
  apply obn; rfl; rfl; rfl; apply Bin.eql
  apply oas; rfl; rfl
  apply OL.nx
  (refine W.cnd (fun hq4 => ?_) (fun hq4 => ?_)) <;> (try (exfalso; first | omega | exact hq4 trivial | contradiction))
  apply W.sr
  apply obn; rfl; rfl; rfl; apply Bin.eql
  apply oas; rfl; rfl
  apply OL.nx
  (refine W.cnd (fun hq5 => ?_) (fun hq5 => ?_)) <;> (try (exfalso; first | omega | exact hq5 trivial | contradiction))
  apply W.sr
  apply obn; rfl; rfl; rfl; apply Bin.eql
  apply oas; rfl; rfl
  apply OL.nx
  (refine W.cnd (fun hq6 => ?_) (fun hq6 => ?_)) <;> (try (exfalso; first | omega | exact hq6 trivial | contradiction))
  apply W.reg
  apply obn; rfl; rfl; rfl; apply Bin.eql
  apply oas; rfl; rfl
  apply OL.nx
  (refine W.cnd (fun hq7 => ?_) (fun hq7 => ?_)) <;> (try (exfalso; first | omega | exact hq7 trivial | contradiction))
  apply W.sr
  apply obn; rfl; rfl; rfl; apply Bin.eql
  apply oas; rfl; rfl
  apply OL.nx
  (refine W.cnd (fun hq8 => ?_) (fun hq8 => ?_)) <;> (try (exfalso; first | omega | exact hq8 trivial | contradiction))
  apply W.sr
  apply obn; rfl; rfl; rfl; apply Bin.eql
  apply oas; rfl; rfl
  apply OL.nx
  (refine W.cnd (fun hq9 => ?_) (fun hq9 => ?_)) <;> (try (exfalso; first | omega | exact hq9 trivial | contradiction))
  apply W.sr
  apply ofa; rfl; rfl; rfl
  apply old; rfl; rfl; exact .tail _ (.head _); rfl; rfl
  apply omv; rfl; rfl
  apply oop; rfl; apply Pev.build; rfl; exact CellsL.agg; rfl; exact Fill.au; rfl
  apply OL.storeB; rfl; rfl; exact CellsL.agg; rfl; rfl; rfl; exact Swap.au; exact Put.au
  apply oas; rfl; rfl
  apply OL.nx
  refine W.rt ?_
  exact At.finCT (b := b6) (cs := [.int .i64 2, .int .i64 i.n, .slice (some ⟨bt, 0, none⟩) vs.length vs.length, .pointer none]) rfl rfl (by exact mau) rfl rfl rfl (fun w' hw' => ⟨.mk 2 i.n (some ⟨bt, 0, none⟩) vs.length 0 vs, 0, x, rfl, by rw [hop]; exact ExR.val hx (Er.of (by unfold bxN; rw [if_neg (by decide)]) hE) (.inr ⟨rfl, rfl⟩), hw'.thin (.any (fun k hk => by rw [show k = b6 from hk]; exact hb6) (.any (fun k hk => by rw [show k = b4 from hk]; exact hb4) Thin.same))⟩)
theorem exec_10 (bm : Nat) (i : Go.Ss.In) (iy : Sc) (hform : formE i = 0) (hop : i.op = 10) (vs : List PV) (svs : List SV) (x : XS) (sA : List (List SV)) (hx : XOk x sA) (hvl : vs.length = i.args.length) (bt : Nat) (hE : Ers (bxN x.bs) vs svs) (hin : ∀ p ∈ vs, InP x.L p) (nf : Nat) (hwf : ∀ v ∈ svs, WfV nf sA.length v) (H : List Eng.Item) (S : List World) (s0 : World) (hs0 : s0 ∈ S) (w : World)
    (hc : Cls (blk bt 198 (cat pC vs) :: xI s0.heap.size bm x H) S w) :
    Calls Try.prog 141 [.pointer (some ⟨bm, 0, none⟩), .agg (inC i iy).toArray, .slice (some ⟨bt, 0, none⟩) vs.length vs.length].toArray w fun e w' =>
      ∃ v t x', e = .returned (.tuple #[.agg (pC v).toArray, .int .i64 t]) ∧ ExR (insP i.op i.n svs sA x.out) x x' vs bt v t ∧ Cls (blk bt 198 (cat pC vs) :: xI s0.heap.size bm x' H) S w' := by
  have hbs : ∃ s ∈ S, s0.heap.size ≤ s.heap.size := ⟨s0, hs0, Nat.le_refl _⟩
  obtain ⟨fa0, fa2, fa3, fa1, fa16, _⟩ := form_args hform
  obtain ⟨fn1, fn2⟩ := num_range hform
  obtain ⟨p0, v0, rfl, rfl, he0⟩ := hE.one (by omega)
  have hin0 := hin p0 (by simp)
  unfold xI at hc ⊢
  refine enter Try.func141 rfl Try.ntmps141 rfl hc ?_
  (simp only [argEnv, Nat.zero_add, Nat.reduceAdd])
  unfold inC
  apply W.sr
  apply OL.box; rfl; rfl; exact CellsL.agg; (intro bk hbk; have hbk0 := hbk.mem s0 hs0)
  apply OL.alloc; rfl; rfl; exact CellsL.agg; (intro bk hbk; have hbk0 := hbk.mem s0 hs0)
  apply oas; rfl; rfl
  apply OL.nx
  apply W.seq
  apply W.sr
  apply ofa; rfl; rfl; rfl
  apply old; rfl; rfl; exact .tail _ (.head _); rfl; rfl
  apply OL.nx
  apply W.block
  apply W.sr
  apply obn; rfl; rfl; rfl; apply Bin.eql
  apply oas; rfl; rfl
  apply OL.nx
  rename_i b4 hb4 hb40
  revert hbk0
  revert bk
  intro b6 hb6 hb60
  (refine W.cnd (fun hq0 => ?_) (fun hq0 => ?_)) <;> (try (exfalso; first | omega | exact hq0 trivial | contradiction))
  apply W.seq
  apply W.sr
  apply obn; rfl; rfl; rfl; apply Bin.eql
  apply oas; rfl; rfl
  apply OL.nx
  (refine W.cnd (fun hq1 => ?_) (fun hq1 => ?_)) <;> (try (exfalso; first | omega | exact hq1 trivial | contradiction))
  apply W.sr
  apply obn; rfl; rfl; rfl; apply Bin.eql
  apply oas; rfl; rfl
  apply OL.nx
  (refine W.cnd (fun hq2 => ?_) (fun hq2 => ?_)) <;> (try (exfalso; first | omega | exact hq2 trivial | contradiction))
  apply W.sr
  apply obn; rfl; rfl; rfl; apply Bin.eql
  apply oas; rfl; rfl
  apply OL.nx
  (refine W.cnd (fun hq3 => ?_) (fun hq3 => ?_)) <;> (try (exfalso; first | omega | exact hq3 trivial | contradiction))
  apply W.sr
  apply obn; rfl; rfl; rfl; apply Bin.eql
  apply oas; rfl; rfl
  apply OL.nx
  (refine W.cnd (fun hq4 => ?_) (fun hq4 => ?_)) <;> (try (exfalso; first | omega | exact hq4 trivial | contradiction))
  apply W.sr
  apply obn; rfl; rfl; rfl; apply Bin.eql
  apply oas; rfl; rfl
  apply OL.nx
  (refine W.cnd (fun hq5 => ?_) (fun hq5 => ?_)) <;> (try (exfalso; first | omega | exact hq5 trivial | contradiction))
  apply W.sr
  apply obn; rfl; rfl; rfl; apply Bin.eql
  apply oas; rfl; rfl
  apply OL.nx
  (refine W.cnd (fun hq6 => ?_) (fun hq6 => ?_)) <;> (try (exfalso; first | omega | exact hq6 trivial | contradiction))
  apply W.reg
  apply obn; rfl; rfl; rfl; apply Bin.eql
  apply oas; rfl; rfl
  apply OL.nx
  (refine W.cnd (fun hq7 => ?_) (fun hq7 => ?_)) <;> (try (exfalso; first | omega | exact hq7 trivial | contradiction))
  apply W.sr
  apply obn; rfl; rfl; rfl; apply Bin.eql
  apply oas; rfl; rfl
  apply OL.nx
  (refine W.cnd (fun hq8 => ?_) (fun hq8 => ?_)) <;> (try (exfalso; first | omega | exact hq8 trivial | contradiction))
  apply W.sr
  apply obn; rfl; rfl; rfl; apply Bin.eql
  apply oas; rfl; rfl
  apply OL.nx
  (refine W.cnd (fun hq9 => ?_) (fun hq9 => ?_)) <;> (try (exfalso; first | omega | exact hq9 trivial | contradiction))
  apply W.seq
  apply W.sr
  apply obn; rfl; rfl; rfl; apply Bin.eql
  apply oas; rfl; rfl
  apply OL.nx
  (refine W.cnd (fun hq10 => ?_) (fun hq10 => ?_)) <;> (try (exfalso; first | omega | exact hq10 trivial | contradiction))
  apply W.sk
  (refine W.cnd (fun hq11 => ?_) (fun hq11 => ?_)) <;> (try (exfalso; first | omega | exact hq11 trivial | contradiction))
  apply W.sr
  apply oop; rfl; apply Pev.load_blkA; rfl; exact yes; exact .tail _ (.head _); rfl; exact Take.au
  apply omv; rfl; rfl
  obtain ⟨v, t, hv⟩ : ∃ v t, objA i.op i.n p0 zP = (v, t) := ⟨_, _, rfl⟩
  (((first | (with_reducible apply OL.op) | (with_reducible apply QL.op)); (exact Guard.au); rfl; rfl); (exact Pev.call (v := .tuple #[.agg (pC v).toArray, .int .i64 t]) rfl (by exact Args.au) (fun _ w2 hw2 => (object_calls i iy _ (some ⟨bt, 0, none⟩) _ p0 zP rfl (fun h => by first | rfl | (exfalso; omega)) (by omega) (fun h => fn1 (.inl h)) w2 (argsAt hw2 (.tail _ (.tail _ (.head _))) (.tail _ (.tail _ (.tail _ (.tail _ (.tail _ (.head _)))))) hin)).mono (fun e w3 h => ⟨by rw [h.1, hv], hw2.ext h.2⟩))))
  apply oex; rfl; rfl; rfl
  apply oex; rfl; rfl; rfl
  apply OL.storeB; rfl; rfl; exact CellsL.agg; rfl; rfl; rfl; exact Swap.au; exact Put.au
  apply oas; rfl; rfl
  apply OL.nx
  refine W.rt ?_
  refine At.finCT (b := b6) (cs := [.int .i64 v.k, .int .i64 v.n, .slice v.q v.l.length v.cap, .pointer (if v.k = 3 then some ⟨v.b, 0, none⟩ else none)]) rfl rfl (by exact mau) rfl rfl rfl (fun w' hw' => ⟨v, t, x, rfl, ?_, hw'.thin (.any (fun k hk => by rw [show k = b6 from hk]; exact hb6) (.any (fun k hk => by rw [show k = b4 from hk]; exact hb4) Thin.same))⟩)
  rw [hop] at hv ⊢
  exact ex_10 hx he0 hv hin0
theorem exec_11 (bm : Nat) (i : Go.Ss.In) (iy : Sc) (hform : formE i = 0) (hop : i.op = 11) (vs : List PV) (svs : List SV) (x : XS) (sA : List (List SV)) (hx : XOk x sA) (hvl : vs.length = i.args.length) (bt : Nat) (hE : Ers (bxN x.bs) vs svs) (hin : ∀ p ∈ vs, InP x.L p) (nf : Nat) (hwf : ∀ v ∈ svs, WfV nf sA.length v) (H : List Eng.Item) (S : List World) (s0 : World) (hs0 : s0 ∈ S) (w : World)
    (hc : Cls (blk bt 198 (cat pC vs) :: xI s0.heap.size bm x H) S w) :
    Calls Try.prog 141 [.pointer (some ⟨bm, 0, none⟩), .agg (inC i iy).toArray, .slice (some ⟨bt, 0, none⟩) vs.length vs.length].toArray w fun e w' =>
      ∃ v t x', e = .returned (.tuple #[.agg (pC v).toArray, .int .i64 t]) ∧ ExR (insP i.op i.n svs sA x.out) x x' vs bt v t ∧ Cls (blk bt 198 (cat pC vs) :: xI s0.heap.size bm x' H) S w' := by
  have hbs : ∃ s ∈ S, s0.heap.size ≤ s.heap.size := ⟨s0, hs0, Nat.le_refl _⟩
  obtain ⟨fa0, fa2, fa3, fa1, fa16, _⟩ := form_args hform
  obtain ⟨fn1, fn2⟩ := num_range hform
  obtain ⟨p0, v0, rfl, rfl, he0⟩ := hE.one (by omega)
  have hin0 := hin p0 (by simp)
  unfold xI at hc ⊢
  refine enter Try.func141 rfl Try.ntmps141 rfl hc ?_
  (simp only [argEnv, Nat.zero_add, Nat.reduceAdd])
  unfold inC
  apply W.sr
  apply OL.box; rfl; rfl; exact CellsL.agg; (intro bk hbk; have hbk0 := hbk.mem s0 hs0)
  apply OL.alloc; rfl; rfl; exact CellsL.agg; (intro bk hbk; have hbk0 := hbk.mem s0 hs0)
  apply oas; rfl; rfl
  apply OL.nx
  apply W.seq
  apply W.sr
  apply ofa; rfl; rfl; rfl
  apply old; rfl; rfl; exact .tail _ (.head _); rfl; rfl
  apply OL.nx
  apply W.block
  apply W.sr
  apply obn; rfl; rfl; rfl; apply Bin.eql
  apply oas; rfl; rfl
  apply OL.nx
  rename_i b4 hb4 hb40
  revert hbk0
  revert bk
  intro b6 hb6 hb60
  (refine W.cnd (fun hq0 => ?_) (fun hq0 => ?_)) <;> (try (exfalso; first | omega | exact hq0 trivial | contradiction))
  apply W.seq
  apply W.sr
  apply obn; rfl; rfl; rfl; apply Bin.eql
  apply oas; rfl; rfl
  apply OL.nx
  (refine W.cnd (fun hq1 => ?_) (fun hq1 => ?_)) <;> (try (exfalso; first | omega | exact hq1 trivial | contradiction))
  apply W.sr
  apply obn; rfl; rfl; rfl; apply Bin.eql
  apply oas; rfl; rfl
  apply OL.nx
  (refine W.cnd (fun hq2 => ?_) (fun hq2 => ?_)) <;> (try (exfalso; first | omega | exact hq2 trivial | contradiction))
  apply W.sr
  apply obn; rfl; rfl; rfl; apply Bin.eql
  apply oas; rfl; rfl
  apply OL.nx
  (refine W.cnd (fun hq3 => ?_) (fun hq3 => ?_)) <;> (try (exfalso; first | omega | exact hq3 trivial | contradiction))
  apply W.sr
  apply obn; rfl; rfl; rfl; apply Bin.eql
  apply oas; rfl; rfl
  apply OL.nx
  (refine W.cnd (fun hq4 => ?_) (fun hq4 => ?_)) <;> (try (exfalso; first | omega | exact hq4 trivial | contradiction))
  apply W.sr
  apply obn; rfl; rfl; rfl; apply Bin.eql
  apply oas; rfl; rfl
  apply OL.nx
  (refine W.cnd (fun hq5 => ?_) (fun hq5 => ?_)) <;> (try (exfalso; first | omega | exact hq5 trivial | contradiction))
  apply W.sr
  apply obn; rfl; rfl; rfl; apply Bin.eql
  apply oas; rfl; rfl
  apply OL.nx
  (refine W.cnd (fun hq6 => ?_) (fun hq6 => ?_)) <;> (try (exfalso; first | omega | exact hq6 trivial | contradiction))
  apply W.reg
  apply obn; rfl; rfl; rfl; apply Bin.eql
  apply oas; rfl; rfl
  apply OL.nx
  (refine W.cnd (fun hq7 => ?_) (fun hq7 => ?_)) <;> (try (exfalso; first | omega | exact hq7 trivial | contradiction))
  apply W.sr
  apply obn; rfl; rfl; rfl; apply Bin.eql
  apply oas; rfl; rfl
  apply OL.nx
  (refine W.cnd (fun hq8 => ?_) (fun hq8 => ?_)) <;> (try (exfalso; first | omega | exact hq8 trivial | contradiction))
  apply W.sr
  apply obn; rfl; rfl; rfl; apply Bin.eql
  apply oas; rfl; rfl
  apply OL.nx
  (refine W.cnd (fun hq9 => ?_) (fun hq9 => ?_)) <;> (try (exfalso; first | omega | exact hq9 trivial | contradiction))
  apply W.seq
  apply W.sr
  apply obn; rfl; rfl; rfl; apply Bin.eql
  apply oas; rfl; rfl
  apply OL.nx
  (refine W.cnd (fun hq10 => ?_) (fun hq10 => ?_)) <;> (try (exfalso; first | omega | exact hq10 trivial | contradiction))
  apply W.sr
  apply obn; rfl; rfl; rfl; apply Bin.eql
  apply oas; rfl; rfl
  apply OL.nx
  (refine W.cnd (fun hq11 => ?_) (fun hq11 => ?_)) <;> (try (exfalso; first | omega | exact hq11 trivial | contradiction))
  apply W.sk
  (refine W.cnd (fun hq12 => ?_) (fun hq12 => ?_)) <;> (try (exfalso; first | omega | exact hq12 trivial | contradiction))
  apply W.sr
  apply oop; rfl; apply Pev.load_blkA; rfl; exact yes; exact .tail _ (.head _); rfl; exact Take.au
  apply omv; rfl; rfl
  obtain ⟨v, t, hv⟩ : ∃ v t, objA i.op i.n p0 zP = (v, t) := ⟨_, _, rfl⟩
  (((first | (with_reducible apply OL.op) | (with_reducible apply QL.op)); (exact Guard.au); rfl; rfl); (exact Pev.call (v := .tuple #[.agg (pC v).toArray, .int .i64 t]) rfl (by exact Args.au) (fun _ w2 hw2 => (object_calls i iy _ (some ⟨bt, 0, none⟩) _ p0 zP rfl (fun h => by first | rfl | (exfalso; omega)) (by omega) (fun h => fn1 (.inl h)) w2 (argsAt hw2 (.tail _ (.tail _ (.head _))) (.tail _ (.tail _ (.tail _ (.tail _ (.tail _ (.head _)))))) hin)).mono (fun e w3 h => ⟨by rw [h.1, hv], hw2.ext h.2⟩))))
  apply oex; rfl; rfl; rfl
  apply oex; rfl; rfl; rfl
  apply OL.storeB; rfl; rfl; exact CellsL.agg; rfl; rfl; rfl; exact Swap.au; exact Put.au
  apply oas; rfl; rfl
  apply OL.nx
  refine W.rt ?_
  refine At.finCT (b := b6) (cs := [.int .i64 v.k, .int .i64 v.n, .slice v.q v.l.length v.cap, .pointer (if v.k = 3 then some ⟨v.b, 0, none⟩ else none)]) rfl rfl (by exact mau) rfl rfl rfl (fun w' hw' => ⟨v, t, x, rfl, ?_, hw'.thin (.any (fun k hk => by rw [show k = b6 from hk]; exact hb6) (.any (fun k hk => by rw [show k = b4 from hk]; exact hb4) Thin.same))⟩)
  rw [hop] at hv ⊢
  exact ex_11 hx he0 hv hin0
theorem exec_12 (bm : Nat) (i : Go.Ss.In) (iy : Sc) (hform : formE i = 0) (hop : i.op = 12) (vs : List PV) (svs : List SV) (x : XS) (sA : List (List SV)) (hx : XOk x sA) (hvl : vs.length = i.args.length) (bt : Nat) (hE : Ers (bxN x.bs) vs svs) (hin : ∀ p ∈ vs, InP x.L p) (nf : Nat) (hwf : ∀ v ∈ svs, WfV nf sA.length v) (H : List Eng.Item) (S : List World) (s0 : World) (hs0 : s0 ∈ S) (w : World)
    (hc : Cls (blk bt 198 (cat pC vs) :: xI s0.heap.size bm x H) S w) :
    Calls Try.prog 141 [.pointer (some ⟨bm, 0, none⟩), .agg (inC i iy).toArray, .slice (some ⟨bt, 0, none⟩) vs.length vs.length].toArray w fun e w' =>
      ∃ v t x', e = .returned (.tuple #[.agg (pC v).toArray, .int .i64 t]) ∧ ExR (insP i.op i.n svs sA x.out) x x' vs bt v t ∧ Cls (blk bt 198 (cat pC vs) :: xI s0.heap.size bm x' H) S w' := by
  have hbs : ∃ s ∈ S, s0.heap.size ≤ s.heap.size := ⟨s0, hs0, Nat.le_refl _⟩
  obtain ⟨fa0, fa2, fa3, fa1, fa16, _⟩ := form_args hform
  obtain ⟨fn1, fn2⟩ := num_range hform
  obtain ⟨p0, v0, rfl, rfl, he0⟩ := hE.one (by omega)
  have hin0 := hin p0 (by simp)
  unfold xI at hc ⊢
  refine enter Try.func141 rfl Try.ntmps141 rfl hc ?_
  (simp only [argEnv, Nat.zero_add, Nat.reduceAdd])
  unfold inC
  apply W.sr
  apply OL.box; rfl; rfl; exact CellsL.agg; (intro bk hbk; have hbk0 := hbk.mem s0 hs0)
  apply OL.alloc; rfl; rfl; exact CellsL.agg; (intro bk hbk; have hbk0 := hbk.mem s0 hs0)
  apply oas; rfl; rfl
  apply OL.nx
  apply W.seq
  apply W.sr
  apply ofa; rfl; rfl; rfl
  apply old; rfl; rfl; exact .tail _ (.head _); rfl; rfl
  apply OL.nx
  apply W.block
  apply W.sr
  apply obn; rfl; rfl; rfl; apply Bin.eql
  apply oas; rfl; rfl
  apply OL.nx
  rename_i b4 hb4 hb40
  revert hbk0
  revert bk
  intro b6 hb6 hb60
  (refine W.cnd (fun hq0 => ?_) (fun hq0 => ?_)) <;> (try (exfalso; first | omega | exact hq0 trivial | contradiction))
  apply W.seq
  apply W.sr
  apply obn; rfl; rfl; rfl; apply Bin.eql
  apply oas; rfl; rfl
  apply OL.nx
  (refine W.cnd (fun hq1 => ?_) (fun hq1 => ?_)) <;> (try (exfalso; first | omega | exact hq1 trivial | contradiction))
  apply W.sr
  apply obn; rfl; rfl; rfl; apply Bin.eql
  apply oas; rfl; rfl
  apply OL.nx
  (refine W.cnd (fun hq2 => ?_) (fun hq2 => ?_)) <;> (try (exfalso; first | omega | exact hq2 trivial | contradiction))
  apply W.sr
  apply obn; rfl; rfl; rfl; apply Bin.eql
  apply oas; rfl; rfl
  apply OL.nx
  (refine W.cnd (fun hq3 => ?_) (fun hq3 => ?_)) <;> (try (exfalso; first | omega | exact hq3 trivial | contradiction))
  apply W.sr
  apply obn; rfl; rfl; rfl; apply Bin.eql
  apply oas; rfl; rfl
  apply OL.nx
  (refine W.cnd (fun hq4 => ?_) (fun hq4 => ?_)) <;> (try (exfalso; first | omega | exact hq4 trivial | contradiction))
  apply W.sr
  apply obn; rfl; rfl; rfl; apply Bin.eql
  apply oas; rfl; rfl
  apply OL.nx
  (refine W.cnd (fun hq5 => ?_) (fun hq5 => ?_)) <;> (try (exfalso; first | omega | exact hq5 trivial | contradiction))
  apply W.sr
  apply obn; rfl; rfl; rfl; apply Bin.eql
  apply oas; rfl; rfl
  apply OL.nx
  (refine W.cnd (fun hq6 => ?_) (fun hq6 => ?_)) <;> (try (exfalso; first | omega | exact hq6 trivial | contradiction))
  apply W.reg
  apply obn; rfl; rfl; rfl; apply Bin.eql
  apply oas; rfl; rfl
  apply OL.nx
  (refine W.cnd (fun hq7 => ?_) (fun hq7 => ?_)) <;> (try (exfalso; first | omega | exact hq7 trivial | contradiction))
  apply W.sr
  apply obn; rfl; rfl; rfl; apply Bin.eql
  apply oas; rfl; rfl
  apply OL.nx
  (refine W.cnd (fun hq8 => ?_) (fun hq8 => ?_)) <;> (try (exfalso; first | omega | exact hq8 trivial | contradiction))
  apply W.sr
  apply obn; rfl; rfl; rfl; apply Bin.eql
  apply oas; rfl; rfl
  apply OL.nx
  (refine W.cnd (fun hq9 => ?_) (fun hq9 => ?_)) <;> (try (exfalso; first | omega | exact hq9 trivial | contradiction))
  apply W.seq
  apply W.sr
  apply obn; rfl; rfl; rfl; apply Bin.eql
  apply oas; rfl; rfl
  apply OL.nx
  (refine W.cnd (fun hq10 => ?_) (fun hq10 => ?_)) <;> (try (exfalso; first | omega | exact hq10 trivial | contradiction))
  apply W.sr
  apply obn; rfl; rfl; rfl; apply Bin.eql
  apply oas; rfl; rfl
  apply OL.nx
  (refine W.cnd (fun hq11 => ?_) (fun hq11 => ?_)) <;> (try (exfalso; first | omega | exact hq11 trivial | contradiction))
  apply W.sr
  apply obn; rfl; rfl; rfl; apply Bin.eql
  apply oas; rfl; rfl
  apply OL.nx
  (refine W.cnd (fun hq12 => ?_) (fun hq12 => ?_)) <;> (try (exfalso; first | omega | exact hq12 trivial | contradiction))
  apply W.sk
  (refine W.cnd (fun hq13 => ?_) (fun hq13 => ?_)) <;> (try (exfalso; first | omega | exact hq13 trivial | contradiction))
  apply W.sr
  apply oop; rfl; apply Pev.load_blkA; rfl; exact yes; exact .tail _ (.head _); rfl; exact Take.au
  apply omv; rfl; rfl
  obtain ⟨v, t, hv⟩ : ∃ v t, objA i.op i.n p0 zP = (v, t) := ⟨_, _, rfl⟩
  (((first | (with_reducible apply OL.op) | (with_reducible apply QL.op)); (exact Guard.au); rfl; rfl); (exact Pev.call (v := .tuple #[.agg (pC v).toArray, .int .i64 t]) rfl (by exact Args.au) (fun _ w2 hw2 => (object_calls i iy _ (some ⟨bt, 0, none⟩) _ p0 zP rfl (fun h => by first | rfl | (exfalso; omega)) (by omega) (fun h => fn1 (.inl h)) w2 (argsAt hw2 (.tail _ (.tail _ (.head _))) (.tail _ (.tail _ (.tail _ (.tail _ (.tail _ (.head _)))))) hin)).mono (fun e w3 h => ⟨by rw [h.1, hv], hw2.ext h.2⟩))))
  apply oex; rfl; rfl; rfl
  apply oex; rfl; rfl; rfl
  apply OL.storeB; rfl; rfl; exact CellsL.agg; rfl; rfl; rfl; exact Swap.au; exact Put.au
  apply oas; rfl; rfl
  apply OL.nx
  refine W.rt ?_
  refine At.finCT (b := b6) (cs := [.int .i64 v.k, .int .i64 v.n, .slice v.q v.l.length v.cap, .pointer (if v.k = 3 then some ⟨v.b, 0, none⟩ else none)]) rfl rfl (by exact mau) rfl rfl rfl (fun w' hw' => ⟨v, t, x, rfl, ?_, hw'.thin (.any (fun k hk => by rw [show k = b6 from hk]; exact hb6) (.any (fun k hk => by rw [show k = b4 from hk]; exact hb4) Thin.same))⟩)
  rw [hop] at hv ⊢
  exact ex_12 hx he0 hv hin0
theorem exec_21 (bm : Nat) (i : Go.Ss.In) (iy : Sc) (hform : formE i = 0) (hop : i.op = 21) (vs : List PV) (svs : List SV) (x : XS) (sA : List (List SV)) (hx : XOk x sA) (hvl : vs.length = i.args.length) (bt : Nat) (hE : Ers (bxN x.bs) vs svs) (hin : ∀ p ∈ vs, InP x.L p) (nf : Nat) (hwf : ∀ v ∈ svs, WfV nf sA.length v) (H : List Eng.Item) (S : List World) (s0 : World) (hs0 : s0 ∈ S) (w : World)
    (hc : Cls (blk bt 198 (cat pC vs) :: xI s0.heap.size bm x H) S w) :
    Calls Try.prog 141 [.pointer (some ⟨bm, 0, none⟩), .agg (inC i iy).toArray, .slice (some ⟨bt, 0, none⟩) vs.length vs.length].toArray w fun e w' =>
      ∃ v t x', e = .returned (.tuple #[.agg (pC v).toArray, .int .i64 t]) ∧ ExR (insP i.op i.n svs sA x.out) x x' vs bt v t ∧ Cls (blk bt 198 (cat pC vs) :: xI s0.heap.size bm x' H) S w' := by
  have hbs : ∃ s ∈ S, s0.heap.size ≤ s.heap.size := ⟨s0, hs0, Nat.le_refl _⟩
  obtain ⟨fa0, fa2, fa3, fa1, fa16, _⟩ := form_args hform
  obtain ⟨fn1, fn2⟩ := num_range hform
  obtain ⟨p0, p1, v0, v1, rfl, rfl, he0, he1⟩ := hE.two (by omega)
  have hin0 := hin p0 (by simp)
  have hin1 := hin p1 (by simp)
  unfold xI at hc ⊢
  refine enter Try.func141 rfl Try.ntmps141 rfl hc ?_
  (simp only [argEnv, Nat.zero_add, Nat.reduceAdd])
  unfold inC
  apply W.sr
  apply OL.box; rfl; rfl; exact CellsL.agg; (intro bk hbk; have hbk0 := hbk.mem s0 hs0)
  apply OL.alloc; rfl; rfl; exact CellsL.agg; (intro bk hbk; have hbk0 := hbk.mem s0 hs0)
  apply oas; rfl; rfl
  apply OL.nx
  apply W.seq
  apply W.sr
  apply ofa; rfl; rfl; rfl
  apply old; rfl; rfl; exact .tail _ (.head _); rfl; rfl
  apply OL.nx
  apply W.block
  apply W.sr
  apply obn; rfl; rfl; rfl; apply Bin.eql
  apply oas; rfl; rfl
  apply OL.nx
  rename_i b4 hb4 hb40
  revert hbk0
  revert bk
  intro b6 hb6 hb60
  (refine W.cnd (fun hq0 => ?_) (fun hq0 => ?_)) <;> (try (exfalso; first | omega | exact hq0 trivial | contradiction))
  apply W.seq
  apply W.sr
  apply obn; rfl; rfl; rfl; apply Bin.eql
  apply oas; rfl; rfl
  apply OL.nx
  (refine W.cnd (fun hq1 => ?_) (fun hq1 => ?_)) <;> (try (exfalso; first | omega | exact hq1 trivial | contradiction))
  apply W.sr
  apply obn; rfl; rfl; rfl; apply Bin.eql
  apply oas; rfl; rfl
  apply OL.nx
  (refine W.cnd (fun hq2 => ?_) (fun hq2 => ?_)) <;> (try (exfalso; first | omega | exact hq2 trivial | contradiction))
  apply W.sr
  apply obn; rfl; rfl; rfl; apply Bin.eql
  apply oas; rfl; rfl
  apply OL.nx
  (refine W.cnd (fun hq3 => ?_) (fun hq3 => ?_)) <;> (try (exfalso; first | omega | exact hq3 trivial | contradiction))
  apply W.sr
  apply obn; rfl; rfl; rfl; apply Bin.eql
  apply oas; rfl; rfl
  apply OL.nx
  (refine W.cnd (fun hq4 => ?_) (fun hq4 => ?_)) <;> (try (exfalso; first | omega | exact hq4 trivial | contradiction))
  apply W.sr
  apply obn; rfl; rfl; rfl; apply Bin.eql
  apply oas; rfl; rfl
  apply OL.nx
  (refine W.cnd (fun hq5 => ?_) (fun hq5 => ?_)) <;> (try (exfalso; first | omega | exact hq5 trivial | contradiction))
  apply W.sr
  apply obn; rfl; rfl; rfl; apply Bin.eql
  apply oas; rfl; rfl
  apply OL.nx
  (refine W.cnd (fun hq6 => ?_) (fun hq6 => ?_)) <;> (try (exfalso; first | omega | exact hq6 trivial | contradiction))
  apply W.reg
  apply obn; rfl; rfl; rfl; apply Bin.eql
  apply oas; rfl; rfl
  apply OL.nx
  (refine W.cnd (fun hq7 => ?_) (fun hq7 => ?_)) <;> (try (exfalso; first | omega | exact hq7 trivial | contradiction))
  apply W.sr
  apply obn; rfl; rfl; rfl; apply Bin.eql
  apply oas; rfl; rfl
  apply OL.nx
  (refine W.cnd (fun hq8 => ?_) (fun hq8 => ?_)) <;> (try (exfalso; first | omega | exact hq8 trivial | contradiction))
  apply W.sr
  apply obn; rfl; rfl; rfl; apply Bin.eql
  apply oas; rfl; rfl
  apply OL.nx
  (refine W.cnd (fun hq9 => ?_) (fun hq9 => ?_)) <;> (try (exfalso; first | omega | exact hq9 trivial | contradiction))
  apply W.seq
  apply W.sr
  apply obn; rfl; rfl; rfl; apply Bin.eql
  apply oas; rfl; rfl
  apply OL.nx
  (refine W.cnd (fun hq10 => ?_) (fun hq10 => ?_)) <;> (try (exfalso; first | omega | exact hq10 trivial | contradiction))
  apply W.sr
  apply obn; rfl; rfl; rfl; apply Bin.eql
  apply oas; rfl; rfl
  apply OL.nx
  (refine W.cnd (fun hq11 => ?_) (fun hq11 => ?_)) <;> (try (exfalso; first | omega | exact hq11 trivial | contradiction))
  apply W.sr
  apply obn; rfl; rfl; rfl; apply Bin.eql
  apply oas; rfl; rfl
  apply OL.nx
  (refine W.cnd (fun hq12 => ?_) (fun hq12 => ?_)) <;> (try (exfalso; first | omega | exact hq12 trivial | contradiction))
  apply W.reg
  apply obn; rfl; rfl; rfl; apply Bin.eql
  apply oas; rfl; rfl
  apply OL.nx
  (refine W.cnd (fun hq13 => ?_) (fun hq13 => ?_)) <;> (try (exfalso; first | omega | exact hq13 trivial | contradiction))
  apply W.sr
  apply oop; rfl; apply Pev.load_blkA; rfl; exact yes; exact .tail _ (.head _); rfl; exact Take.au
  apply omv; rfl; rfl
  obtain ⟨v, t, hv⟩ : ∃ v t, objA i.op i.n p0 p1 = (v, t) := ⟨_, _, rfl⟩
  (((first | (with_reducible apply OL.op) | (with_reducible apply QL.op)); (exact Guard.au); rfl; rfl); (exact Pev.call (v := .tuple #[.agg (pC v).toArray, .int .i64 t]) rfl (by exact Args.au) (fun _ w2 hw2 => (object_calls i iy _ (some ⟨bt, 0, none⟩) _ p0 p1 rfl (fun h => by first | rfl | (exfalso; omega)) (by omega) (fun h => fn1 (.inl h)) w2 (argsAt hw2 (.tail _ (.tail _ (.head _))) (.tail _ (.tail _ (.tail _ (.tail _ (.tail _ (.head _)))))) hin)).mono (fun e w3 h => ⟨by rw [h.1, hv], hw2.ext h.2⟩))))
  apply oex; rfl; rfl; rfl
  apply oex; rfl; rfl; rfl
  apply OL.storeB; rfl; rfl; exact CellsL.agg; rfl; rfl; rfl; exact Swap.au; exact Put.au
  apply oas; rfl; rfl
  apply OL.nx
  refine W.rt ?_
  refine At.finCT (b := b6) (cs := [.int .i64 v.k, .int .i64 v.n, .slice v.q v.l.length v.cap, .pointer (if v.k = 3 then some ⟨v.b, 0, none⟩ else none)]) rfl rfl (by exact mau) rfl rfl rfl (fun w' hw' => ⟨v, t, x, rfl, ?_, hw'.thin (.any (fun k hk => by rw [show k = b6 from hk]; exact hb6) (.any (fun k hk => by rw [show k = b4 from hk]; exact hb4) Thin.same))⟩)
  rw [hop] at hv ⊢
  exact ex_21 hx he0 he1 hv hin0
end Go.Proofs.Ytehelljmaiophaa.ss

/- The walk of ssa's exec at words and vectors. Conditions: none. -/
namespace Go.Ss
open Go.Eng Go.RowKit Go.Proofs.Ytehelljmaiophaa.ss
section
variable {x : XS} {sA : List (List SV)} {op n t : Int} {p0 p1 v : PV} {v0 v1 : SV} {bt : Nat} {vs : List PV} {svs : List SV}
theorem ex_bin (hop : 1 ≤ op ∧ op ≤ 7) (hx : XOk x sA) (he0 : Er (bxN x.bs) p0 v0) (he1 : Er (bxN x.bs) p1 v1) (hk0 : p0.k = 0) (hk1 : p1.k = 0) (hv : binA op p0.n p1.n = (v, t)) : ExR (insP op n [v0, v1] sA x.out) x x vs bt v t := by
  rw [insP_bin hop]
  have e0 : allK 0 [v0, v1] = true := by
    rw [allK_iff]
    intro y hy
    rcases List.mem_cons.1 hy with rfl | hy
    · rw [← he0.k]; exact hk0
    · rw [List.mem_singleton.1 hy, ← he1.k]; exact hk1
  rw [if_neg (by rw [e0]; decide)]
  show ExR (if (op = 4 ∨ op = 5) ∧ v1.n = 0 then .trap 1 else .ok (wV (binV op v0.n v1.n)) sA x.out 0) x x vs bt v t
  rw [← he0.num (by omega), ← he1.num (by omega)]
  unfold binA at hv
  by_cases hc : (op = 4 ∨ op = 5) ∧ p1.n = 0
  · rw [if_pos hc] at hv ⊢
    obtain ⟨rfl, rfl⟩ := Prod.mk.inj hv
    exact ⟨rfl, rfl⟩
  · rw [if_neg hc] at hv ⊢
    obtain ⟨rfl, rfl⟩ := Prod.mk.inj hv
    exact ExR.val hx (erw _) (.inl (.inl rfl))
theorem ex_kinds (hop : 1 ≤ op ∧ op ≤ 7) (he0 : Er (bxN x.bs) p0 v0) (he1 : Er (bxN x.bs) p1 v1) (hk : ¬ (p0.k = 0 ∧ p1.k = 0)) : ExR (insP op n [v0, v1] sA x.out) x x vs bt zP 5 := by
  rw [insP_bin hop, if_pos]
  · exact ⟨rfl, rfl⟩
  · rw [Bool.eq_false_iff]
    intro ht
    have := allK_iff.1 ht
    exact hk ⟨by rw [he0.k]; exact this v0 (by simp), by rw [he1.k]; exact this v1 (by simp)⟩
theorem ex_22 (hx : XOk x sA) (hE : Ers (bxN x.bs) vs svs) (hv : packA (some ⟨bt, 0, none⟩) vs.length vs = (v, t)) : ExR (insP 22 n svs sA x.out) x x vs bt v t := by
  show ExR (if allK 0 svs = false then .trap 5 else .ok (.mk 4 0 svs) sA x.out 0) x x vs bt v t
  unfold packA at hv
  rw [hE.allK] at hv
  cases ha : allK 0 svs with
  | true =>
    rw [ha, if_pos rfl] at hv
    rw [if_neg (by decide)]
    obtain ⟨rfl, rfl⟩ := Prod.mk.inj hv
    exact ExR.val hx (Er.of (by unfold bxN; rw [if_neg (by decide)]) hE) (.inr ⟨rfl, rfl⟩)
  | false =>
    rw [ha, if_neg (by decide)] at hv
    rw [if_pos rfl]
    obtain ⟨rfl, rfl⟩ := Prod.mk.inj hv
    exact ⟨rfl, rfl⟩
theorem ex_24 (hx : XOk x sA) (he0 : Er (bxN x.bs) p0 v0) (hv : laneA n p0 = (v, t)) (hin0 : InP x.L p0) : ExR (insP 24 n [v0] sA x.out) x x vs bt v t := by
  show ExR (if v0.k ≠ 4 ∨ (v0.l.length : Int) ≤ n then .trap 5 else .ok (v0.l.getD n.toNat zV) sA x.out 0) x x vs bt v t
  rw [← he0.k, ← he0.l.len]
  unfold laneA at hv
  by_cases hc : p0.k ≠ 4 ∨ (p0.l.length : Int) ≤ n
  · rw [if_pos hc] at hv ⊢
    obtain ⟨rfl, rfl⟩ := Prod.mk.inj hv
    exact ⟨rfl, rfl⟩
  · rw [if_neg hc] at hv ⊢
    obtain ⟨rfl, rfl⟩ := Prod.mk.inj hv
    exact ExR.val hx (he0.lkid n) (.inl (hin0.getD _))
theorem ex_23t (he0 : Er (bxN x.bs) p0 v0) (he1 : Er (bxN x.bs) p1 v1) (hc : p0.k ≠ 4 ∨ p1.k ≠ 4 ∨ p0.l.length ≠ p1.l.length) : ExR (insP 23 n [v0, v1] sA x.out) x x vs bt zP 5 := by
  show ExR (if allK 4 [v0, v1] = false ∨ v0.l.length ≠ v1.l.length then .trap 5 else .ok (.mk 4 0 (List.zipWith (fun x y => wV (binV n x.n y.n)) v0.l v1.l)) sA x.out 0) x x vs bt zP 5
  rw [if_pos]
  · exact ⟨rfl, rfl⟩
  · rw [← he0.l.len, ← he1.l.len]
    by_cases hl : p0.l.length = p1.l.length
    · refine .inl ?_
      rw [Bool.eq_false_iff]
      intro ht
      have := allK_iff.1 ht
      have h0 := this v0 (by simp)
      have h1 := this v1 (by simp)
      rw [← he0.k] at h0
      rw [← he1.k] at h1
      omega
    · exact .inr hl
theorem zip_er {bx : List Nat} : ∀ {l m : List PV} {l' m' : List SV}, Ers (bxN bx) l l' → Ers (bxN bx) m m' → (∀ v ∈ l', v.k = 0) → (∀ v ∈ m', v.k = 0) → Ers (bxN bx) (List.zipWith (fun x y => pw (binV n x.n y.n)) l m) (List.zipWith (fun x y => wV (binV n x.n y.n)) l' m')
  | [], _, [], _, _, _, _, _ => Ers.nil
  | p :: l, [], v :: l', [], _, _, _, _ => Ers.nil
  | p :: l, q :: m, v :: l', u :: m', h, g, hl, hm => by
    simp only [Ers] at h g
    simp only [List.zipWith_cons_cons]
    have e1 := h.1.num (by rw [h.1.k, hl v (.head _)]; decide)
    have e2 := g.1.num (by rw [g.1.k, hm u (.head _)]; decide)
    rw [e1, e2]
    exact Ers.cons (erw _) (zip_er h.2 g.2 (fun y hy => hl y (.tail _ hy)) (fun y hy => hm y (.tail _ hy)))
  | [], _, _ :: _, _, h, _, _, _ => by simp only [Ers] at h
  | _ :: _, _, [], _, h, _, _, _ => by simp only [Ers] at h
  | p :: l, [], v :: l', u :: m', _, g, _, _ => by simp only [Ers] at g
  | p :: l, q :: m, v :: l', [], _, g, _, _ => by simp only [Ers] at g
theorem XOk.push {x : XS} {sA : List (List SV)} (hx : XOk x sA) (v : PV × Unit) (O : Nat → Prop) : XOk { x with L := x.L ++ [v], Op := O } sA :=
  ⟨hx.no, hx.ol, hx.al, hx.ar, fun a ha p hp => (hx.ai a ha p hp).snoc, hx.a1, hx.sh, hx.l0, hx.l6⟩
theorem ex_23 {nf : Nat} {O : Nat → Prop} (hx : XOk x sA) (he0 : Er (bxN x.bs) p0 v0) (he1 : Er (bxN x.bs) p1 v1) (hw0 : WfV nf sA.length v0) (hw1 : WfV nf sA.length v1) (hc : ¬ (p0.k ≠ 4 ∨ p1.k ≠ 4 ∨ p0.l.length ≠ p1.l.length)) (h1 : v.k = 4) (h2 : v.n = 0) (h3 : v.l = List.zipWith (fun x y => pw (binV n x.n y.n)) p0.l p1.l) :
    ExR (insP 23 n [v0, v1] sA x.out) x { x with L := x.L ++ [(v, ())], Op := O } vs bt v 0 := by
  show ExR (if allK 4 [v0, v1] = false ∨ v0.l.length ≠ v1.l.length then .trap 5 else .ok (.mk 4 0 (List.zipWith (fun x y => wV (binV n x.n y.n)) v0.l v1.l)) sA x.out 0) _ _ _ _ _ _
  have hk0 : v0.k = 4 := by rw [← he0.k]; omega
  have hk1 : v1.k = 4 := by rw [← he1.k]; omega
  rw [if_neg]
  · refine ⟨rfl, .inr ⟨hx.l0, hx.push _ _, rfl, MSame.refl _, by simp, ?_, ⟨[], by simp [XS.bs]⟩, fun r hr => List.mem_append_left _ hr, .inl InP.last⟩⟩
    obtain ⟨k, m, q, cap, b, l⟩ := v
    simp only [PV.k, PV.n, PV.l] at h1 h2 h3
    subst h1 h2 h3
    exact Er.of (by unfold bxN; rw [if_neg (by decide)]) (zip_er he0.l he1.l (hw0.vec hk0) (hw1.vec hk1))
  · rintro (ht | ht)
    · have : allK 4 [v0, v1] = true := by
        rw [allK_iff]
        intro y hy
        rcases List.mem_cons.1 hy with rfl | hy
        · exact hk0
        · rw [List.mem_singleton.1 hy]; exact hk1
      rw [this] at ht; cases ht
    · rw [← he0.l.len, ← he1.l.len] at ht
      omega
end
end Go.Ss
namespace Go.Proofs.Ytehelljmaiophaa.ss
set_option maxRecDepth 100000
open Go.Eng Go.RowKit Go.Ss
theorem exec_bin (bm : Nat) (i : Go.Ss.In) (iy : Sc) (hform : formE i = 0) (hop : 1 ≤ i.op ∧ i.op ≤ 7) (vs : List PV) (svs : List SV) (x : XS) (sA : List (List SV)) (hx : XOk x sA) (hvl : vs.length = i.args.length) (bt : Nat) (hE : Ers (bxN x.bs) vs svs) (hin : ∀ p ∈ vs, InP x.L p) (nf : Nat) (hwf : ∀ v ∈ svs, WfV nf sA.length v) (H : List Eng.Item) (S : List World) (s0 : World) (hs0 : s0 ∈ S) (w : World)
    (hc : Cls (blk bt 198 (cat pC vs) :: xI s0.heap.size bm x H) S w) :
    Calls Try.prog 141 [.pointer (some ⟨bm, 0, none⟩), .agg (inC i iy).toArray, .slice (some ⟨bt, 0, none⟩) vs.length vs.length].toArray w fun e w' =>
      ∃ v t x', e = .returned (.tuple #[.agg (pC v).toArray, .int .i64 t]) ∧ ExR (insP i.op i.n svs sA x.out) x x' vs bt v t ∧ Cls (blk bt 198 (cat pC vs) :: xI s0.heap.size bm x' H) S w' := by
  have hbs : ∃ s ∈ S, s0.heap.size ≤ s.heap.size := ⟨s0, hs0, Nat.le_refl _⟩
  obtain ⟨fa0, fa2, fa3, fa1, fa16, _⟩ := form_args hform
  obtain ⟨fn1, fn2⟩ := num_range hform
  obtain ⟨p0, p1, v0, v1, rfl, rfl, he0, he1⟩ := hE.two (by omega)
  have hin0 := hin p0 (by simp)
  have hin1 := hin p1 (by simp)
  unfold xI at hc ⊢
  refine enter Try.func141 rfl Try.ntmps141 rfl hc ?_
  (simp only [argEnv, Nat.zero_add, Nat.reduceAdd])
  unfold inC
  apply W.sr
  apply OL.box; rfl; rfl; exact CellsL.agg; (intro bk hbk; have hbk0 := hbk.mem s0 hs0)
  apply OL.alloc; rfl; rfl; exact CellsL.agg; (intro bk hbk; have hbk0 := hbk.mem s0 hs0)
  apply oas; rfl; rfl
  apply OL.nx
  apply W.seq
  apply W.sr
  apply ofa; rfl; rfl; rfl
  apply old; rfl; rfl; exact .tail _ (.head _); rfl; rfl
  apply OL.nx
  apply W.block
  apply W.sr
  apply obn; rfl; rfl; rfl; apply Bin.eql
  apply oas; rfl; rfl
  apply OL.nx
  rename_i b4 hb4 hb40
  revert hbk0
  revert bk
  intro b6 hb6 hb60
  (refine W.cnd (fun hq0 => ?_) (fun hq0 => ?_)) <;> (try (exfalso; first | omega | exact hq0 trivial | contradiction))
  have hwf0 := hwf v0 (by simp)
  have hwf1 := hwf v1 (by simp)
  apply W.seq
  apply W.sr
  apply obn; rfl; rfl; rfl; apply Bin.eql
  apply oas; rfl; rfl
  apply OL.nx
  refine W.joinc [(0, true, .pointer (some ⟨bm, 0, none⟩)), (2, true, .slice (some ⟨bt, 0, none⟩) 2 2), (4, true, .pointer (some ⟨b4, 0, none⟩)), (6, true, .pointer (some ⟨b6, 0, none⟩)), (7, true, .int .i64 0), (15, true, .bool true)] (Cls (blk b6 198 [.int .i64 0, .int .i64 0, .slice none 0 0, .pointer none] :: blk b4 85 [.int .i64 i.to_, .int .i64 i.op, .int .i64 i.n, .slice iy.1 i.args.length iy.2] :: blk bt 198 (cat pC [p0, p1]) :: blk bm 160 x.m.c :: row s0.heap.size x.Oo x.m.qo x.m.no x.m.co 3 1 (ints x.out) :: pool (pvR pF) s0.heap.size x.Op x.L :: bag s0.heap.size (arI x.A) :: H) S) ?_ ?_
  · skip
    (refine W.cnd (fun hk1 => ?_) (fun hk1 => ?_)) <;> (try (exfalso; first | omega | exact hk1 trivial | contradiction))
    · apply W.skip
      exact At.joined (by rw [decide_eq_true hk1]; exact Sub.au) (fun w' hw' => hw')
    apply W.sr
    apply obn; rfl; rfl; rfl; apply Bin.eql
    apply oas; rfl; rfl
    apply OL.nx
    (refine W.cnd (fun hk2 => ?_) (fun hk2 => ?_)) <;> (try (exfalso; first | omega | exact hk2 trivial | contradiction))
    · apply W.skip
      exact At.joined (by rw [decide_eq_true hk2]; exact Sub.au) (fun w' hw' => hw')
    apply W.sr
    apply obn; rfl; rfl; rfl; apply Bin.eql
    apply oas; rfl; rfl
    apply OL.nx
    (refine W.cnd (fun hk3 => ?_) (fun hk3 => ?_)) <;> (try (exfalso; first | omega | exact hk3 trivial | contradiction))
    · apply W.skip
      exact At.joined (by rw [decide_eq_true hk3]; exact Sub.au) (fun w' hw' => hw')
    apply W.sr
    apply obn; rfl; rfl; rfl; apply Bin.eql
    apply oas; rfl; rfl
    apply OL.nx
    (refine W.cnd (fun hk4 => ?_) (fun hk4 => ?_)) <;> (try (exfalso; first | omega | exact hk4 trivial | contradiction))
    · apply W.skip
      exact At.joined (by rw [decide_eq_true hk4]; exact Sub.au) (fun w' hw' => hw')
    apply W.sr
    apply obn; rfl; rfl; rfl; apply Bin.eql
    apply oas; rfl; rfl
    apply OL.nx
    (refine W.cnd (fun hk5 => ?_) (fun hk5 => ?_)) <;> (try (exfalso; first | omega | exact hk5 trivial | contradiction))
    · apply W.skip
      exact At.joined (by rw [decide_eq_true hk5]; exact Sub.au) (fun w' hw' => hw')
    apply W.sr
    apply obn; rfl; rfl; rfl; apply Bin.eql
    apply oas; rfl; rfl
    apply OL.nx
    (refine W.cnd (fun hk6 => ?_) (fun hk6 => ?_)) <;> (try (exfalso; first | omega | exact hk6 trivial | contradiction))
    · apply W.skip
      exact At.joined (by rw [decide_eq_true hk6]; exact Sub.au) (fun w' hw' => hw')
    apply W.reg
    apply obn; rfl; rfl; rfl; apply Bin.eql
    apply oas; rfl; rfl
    apply OL.nil
    exact At.joined (by rw [decide_eq_true (show i.op = 7 by omega)]; exact Sub.au) (fun w' hw' => hw')
  refine W.cond rfl (fun _ => ?_) (fun h => by cases h)
  apply W.seq
  apply W.sr
  apply omv; rfl; rfl
  (((first | (with_reducible apply OL.op) | (with_reducible apply QL.op)); (exact Guard.au); rfl; rfl); (exact Pev.call (v := .bool (decide (p0.k = 0) && decide (p1.k = 0))) rfl (by exact Args.au) (fun _ w2 hw2 => (all_calls [p0, p1] (some ⟨bt, 0, none⟩) 2 0 w2 (by simp) (argsAt hw2 (.tail _ (.tail _ (.head _))) (.tail _ (.tail _ (.tail _ (.tail _ (.tail _ (.head _)))))) hin)).mono (fun e w3 h => ⟨by rw [h.1]; simp, hw2.ext h.2⟩))))
  apply oop; rfl; apply Pev.not; rfl; exact yes
  apply OL.nx
  by_cases hk : p0.k = 0 ∧ p1.k = 0
  · refine W.cond rfl (fun h => by simp at h; omega) (fun _ => ?_)
    rw [cat2C]
    obtain ⟨v, t, hv⟩ : ∃ v t, binA i.op p0.n p1.n = (v, t) := ⟨_, _, rfl⟩
    apply W.sk
    apply W.seq
    apply W.regq; apply Split.s rfl; apply Split.s rfl; apply Split.s rfl; apply Split.s rfl; apply Split.s rfl; apply Split.s rfl; apply Split.s rfl; apply Split.s rfl; apply Split.s rfl; apply Split.s rfl; apply Split.s rfl; apply Split.s rfl; apply Split.s rfl; exact Split.z rfl; kernel_rfl; decide +kernel; exact fun w hw => hw.drew
    apply qfa; rfl; rfl; rfl
    apply qld; rfl; rfl; exact .tail _ (.head _); rfl; rfl
    apply qmv; rfl; rfl
    apply qop; rfl; apply Pev.idxB; rfl; exact yes; rfl; exact yes; rfl; intro hcond; omega; rfl
    apply qfa; rfl; rfl; rfl
    apply qld; rfl; rfl; exact .tail _ (.tail _ (.head _)); rfl; rfl
    apply qmv; rfl; rfl
    apply qop; rfl; apply Pev.idxB; rfl; exact yes; rfl; exact yes; rfl; intro hcond; omega; rfl
    apply qfa; rfl; rfl; rfl
    apply qld; rfl; rfl; exact .tail _ (.tail _ (.head _)); rfl; rfl
    (((first | (with_reducible apply OL.op) | (with_reducible apply QL.op)); (exact Guard.au); rfl; rfl); (exact Pev.call (v := .tuple #[.agg (pC v).toArray, .int .i64 t]) rfl (by exact Args.au) (fun _ w2 hw2 => (binary_calls i.op p0.n p1.n hop (fun _ => ⟨by rw [he0.num (by omega)]; exact hwf0.word (by rw [← he0.k]; exact hk.1), by rw [he1.num (by omega)]; exact hwf1.word (by rw [← he1.k]; exact hk.2)⟩) w2).mono (fun e w3 h => ⟨by rw [h.1, hv], hw2.ext h.2⟩))))
    apply qop; rfl; apply Pev.extract; rfl; exact yes; rfl
    apply qop; rfl; apply Pev.extract; rfl; exact yes; rfl
    with_reducible apply QL.tail
    apply OL.storeB; rfl; rfl; exact CellsL.agg; rfl; rfl; rfl; exact Swap.au; exact Put.au
    apply oas; rfl; rfl
    apply OL.nx
    refine W.rt ?_
    exact At.finCT (b := b6) (cs := [.int .i64 v.k, .int .i64 v.n, .slice v.q v.l.length v.cap, .pointer (if v.k = 3 then some ⟨v.b, 0, none⟩ else none)]) rfl rfl (by exact mau) rfl rfl rfl (fun w' hw' => ⟨v, t, x, rfl, ex_bin hop hx he0 he1 hk.1 hk.2 hv, hw'.thin (.any (fun k hk => by rw [show k = b6 from hk]; exact hb6) (.any (fun k hk => by rw [show k = b4 from hk]; exact hb4) Thin.same))⟩)
  · refine W.cond rfl (fun _ => ?_) (fun h => by simp at h; omega)
    apply W.sr
    apply oop; rfl; apply Pev.build; rfl; exact CellsL.agg; rfl; exact Fill.au; rfl
    apply OL.storeB; rfl; rfl; exact CellsL.agg; rfl; rfl; rfl; exact Swap.au; exact Put.au
    apply oas; rfl; rfl
    apply OL.nx
    refine W.rt ?_
    exact At.finCT (b := b6) (cs := [.int .i64 0, .int .i64 0, .slice none 0 0, .pointer none]) rfl rfl (by exact mau) rfl rfl rfl (fun w' hw' => ⟨zP, 5, x, rfl, ex_kinds hop he0 he1 hk, hw'.thin (.any (fun k hk => by rw [show k = b6 from hk]; exact hb6) (.any (fun k hk => by rw [show k = b4 from hk]; exact hb4) Thin.same))⟩)
theorem exec_22 (bm : Nat) (i : Go.Ss.In) (iy : Sc) (hform : formE i = 0) (hop : i.op = 22) (vs : List PV) (svs : List SV) (x : XS) (sA : List (List SV)) (hx : XOk x sA) (hvl : vs.length = i.args.length) (bt : Nat) (hE : Ers (bxN x.bs) vs svs) (hin : ∀ p ∈ vs, InP x.L p) (nf : Nat) (hwf : ∀ v ∈ svs, WfV nf sA.length v) (H : List Eng.Item) (S : List World) (s0 : World) (hs0 : s0 ∈ S) (w : World)
    (hc : Cls (blk bt 198 (cat pC vs) :: xI s0.heap.size bm x H) S w) :
    Calls Try.prog 141 [.pointer (some ⟨bm, 0, none⟩), .agg (inC i iy).toArray, .slice (some ⟨bt, 0, none⟩) vs.length vs.length].toArray w fun e w' =>
      ∃ v t x', e = .returned (.tuple #[.agg (pC v).toArray, .int .i64 t]) ∧ ExR (insP i.op i.n svs sA x.out) x x' vs bt v t ∧ Cls (blk bt 198 (cat pC vs) :: xI s0.heap.size bm x' H) S w' := by
  have hbs : ∃ s ∈ S, s0.heap.size ≤ s.heap.size := ⟨s0, hs0, Nat.le_refl _⟩
  obtain ⟨fa0, fa2, fa3, fa1, fa16, _⟩ := form_args hform
  obtain ⟨fn1, fn2⟩ := num_range hform
  unfold xI at hc ⊢
  refine enter Try.func141 rfl Try.ntmps141 rfl hc ?_
  (simp only [argEnv, Nat.zero_add, Nat.reduceAdd])
  unfold inC
  apply W.sr
  apply OL.box; rfl; rfl; exact CellsL.agg; (intro bk hbk; have hbk0 := hbk.mem s0 hs0)
  apply OL.alloc; rfl; rfl; exact CellsL.agg; (intro bk hbk; have hbk0 := hbk.mem s0 hs0)
  apply oas; rfl; rfl
  apply OL.nx
  apply W.seq
  apply W.sr
  apply ofa; rfl; rfl; rfl
  apply old; rfl; rfl; exact .tail _ (.head _); rfl; rfl
  apply OL.nx
  apply W.block
  apply W.sr
  apply obn; rfl; rfl; rfl; apply Bin.eql
  apply oas; rfl; rfl
  apply OL.nx
  rename_i b4 hb4 hb40
  revert hbk0
  revert bk
  intro b6 hb6 hb60
  (refine W.cnd (fun hq0 => ?_) (fun hq0 => ?_)) <;> (try (exfalso; first | omega | exact hq0 trivial | contradiction))
  apply W.seq
  apply W.sr
  apply obn; rfl; rfl; rfl; apply Bin.eql
  apply oas; rfl; rfl
  apply OL.nx
  (refine W.cnd (fun hq1 => ?_) (fun hq1 => ?_)) <;> (try (exfalso; first | omega | exact hq1 trivial | contradiction))
  apply W.sr
  apply obn; rfl; rfl; rfl; apply Bin.eql
  apply oas; rfl; rfl
  apply OL.nx
  (refine W.cnd (fun hq2 => ?_) (fun hq2 => ?_)) <;> (try (exfalso; first | omega | exact hq2 trivial | contradiction))
  apply W.sr
  apply obn; rfl; rfl; rfl; apply Bin.eql
  apply oas; rfl; rfl
  apply OL.nx
  (refine W.cnd (fun hq3 => ?_) (fun hq3 => ?_)) <;> (try (exfalso; first | omega | exact hq3 trivial | contradiction))
  apply W.sr
  apply obn; rfl; rfl; rfl; apply Bin.eql
  apply oas; rfl; rfl
  apply OL.nx
  (refine W.cnd (fun hq4 => ?_) (fun hq4 => ?_)) <;> (try (exfalso; first | omega | exact hq4 trivial | contradiction))
  apply W.sr
  apply obn; rfl; rfl; rfl; apply Bin.eql
  apply oas; rfl; rfl
  apply OL.nx
  (refine W.cnd (fun hq5 => ?_) (fun hq5 => ?_)) <;> (try (exfalso; first | omega | exact hq5 trivial | contradiction))
  apply W.sr
  apply obn; rfl; rfl; rfl; apply Bin.eql
  apply oas; rfl; rfl
  apply OL.nx
  (refine W.cnd (fun hq6 => ?_) (fun hq6 => ?_)) <;> (try (exfalso; first | omega | exact hq6 trivial | contradiction))
  apply W.reg
  apply obn; rfl; rfl; rfl; apply Bin.eql
  apply oas; rfl; rfl
  apply OL.nx
  (refine W.cnd (fun hq7 => ?_) (fun hq7 => ?_)) <;> (try (exfalso; first | omega | exact hq7 trivial | contradiction))
  apply W.sr
  apply obn; rfl; rfl; rfl; apply Bin.eql
  apply oas; rfl; rfl
  apply OL.nx
  (refine W.cnd (fun hq8 => ?_) (fun hq8 => ?_)) <;> (try (exfalso; first | omega | exact hq8 trivial | contradiction))
  apply W.sr
  apply obn; rfl; rfl; rfl; apply Bin.eql
  apply oas; rfl; rfl
  apply OL.nx
  (refine W.cnd (fun hq9 => ?_) (fun hq9 => ?_)) <;> (try (exfalso; first | omega | exact hq9 trivial | contradiction))
  apply W.seq
  apply W.sr
  apply obn; rfl; rfl; rfl; apply Bin.eql
  apply oas; rfl; rfl
  apply OL.nx
  (refine W.cnd (fun hq10 => ?_) (fun hq10 => ?_)) <;> (try (exfalso; first | omega | exact hq10 trivial | contradiction))
  apply W.sr
  apply obn; rfl; rfl; rfl; apply Bin.eql
  apply oas; rfl; rfl
  apply OL.nx
  (refine W.cnd (fun hq11 => ?_) (fun hq11 => ?_)) <;> (try (exfalso; first | omega | exact hq11 trivial | contradiction))
  apply W.sr
  apply obn; rfl; rfl; rfl; apply Bin.eql
  apply oas; rfl; rfl
  apply OL.nx
  (refine W.cnd (fun hq12 => ?_) (fun hq12 => ?_)) <;> (try (exfalso; first | omega | exact hq12 trivial | contradiction))
  apply W.reg
  apply obn; rfl; rfl; rfl; apply Bin.eql
  apply oas; rfl; rfl
  apply OL.nx
  (refine W.cnd (fun hq13 => ?_) (fun hq13 => ?_)) <;> (try (exfalso; first | omega | exact hq13 trivial | contradiction))
  apply W.seq
  apply W.sr
  apply obn; rfl; rfl; rfl; apply Bin.eql
  apply oas; rfl; rfl
  apply OL.nx
  (refine W.cnd (fun hq14 => ?_) (fun hq14 => ?_)) <;> (try (exfalso; first | omega | exact hq14 trivial | contradiction))
  apply W.sk
  (refine W.cnd (fun hq15 => ?_) (fun hq15 => ?_)) <;> (try (exfalso; first | omega | exact hq15 trivial | contradiction))
  apply W.sr
  apply oop; rfl; apply Pev.load_blkA; rfl; exact yes; exact .tail _ (.head _); rfl; exact Take.au
  apply omv; rfl; rfl
  obtain ⟨v, t, hv⟩ : ∃ v t, packA (some ⟨bt, 0, none⟩) vs.length vs = (v, t) := ⟨_, _, rfl⟩
  (((first | (with_reducible apply OL.op) | (with_reducible apply QL.op)); (exact Guard.au); rfl; rfl); (exact Pev.call (v := .tuple #[.agg (pC v).toArray, .int .i64 t]) rfl (by exact Args.au) (fun _ w2 hw2 => (vec_pack i iy hop vs (some ⟨bt, 0, none⟩) vs.length (by omega) w2 (argsAt hw2 (.tail _ (.tail _ (.head _))) (.tail _ (.tail _ (.tail _ (.tail _ (.tail _ (.head _)))))) hin)).mono (fun e w3 h => ⟨by rw [h.1, hv], hw2.ext h.2⟩))))
  apply oex; rfl; rfl; rfl
  apply oex; rfl; rfl; rfl
  apply OL.storeB; rfl; rfl; exact CellsL.agg; rfl; rfl; rfl; exact Swap.au; exact Put.au
  apply oas; rfl; rfl
  apply OL.nx
  refine W.rt ?_
  exact At.finCT (b := b6) (cs := [.int .i64 v.k, .int .i64 v.n, .slice v.q v.l.length v.cap, .pointer (if v.k = 3 then some ⟨v.b, 0, none⟩ else none)]) rfl rfl (by exact mau) rfl rfl rfl (fun w' hw' => ⟨v, t, x, rfl, by rw [hop]; exact ex_22 hx hE hv, hw'.thin (.any (fun k hk => by rw [show k = b6 from hk]; exact hb6) (.any (fun k hk => by rw [show k = b4 from hk]; exact hb4) Thin.same))⟩)
theorem exec_24 (bm : Nat) (i : Go.Ss.In) (iy : Sc) (hform : formE i = 0) (hop : i.op = 24) (vs : List PV) (svs : List SV) (x : XS) (sA : List (List SV)) (hx : XOk x sA) (hvl : vs.length = i.args.length) (bt : Nat) (hE : Ers (bxN x.bs) vs svs) (hin : ∀ p ∈ vs, InP x.L p) (nf : Nat) (hwf : ∀ v ∈ svs, WfV nf sA.length v) (H : List Eng.Item) (S : List World) (s0 : World) (hs0 : s0 ∈ S) (w : World)
    (hc : Cls (blk bt 198 (cat pC vs) :: xI s0.heap.size bm x H) S w) :
    Calls Try.prog 141 [.pointer (some ⟨bm, 0, none⟩), .agg (inC i iy).toArray, .slice (some ⟨bt, 0, none⟩) vs.length vs.length].toArray w fun e w' =>
      ∃ v t x', e = .returned (.tuple #[.agg (pC v).toArray, .int .i64 t]) ∧ ExR (insP i.op i.n svs sA x.out) x x' vs bt v t ∧ Cls (blk bt 198 (cat pC vs) :: xI s0.heap.size bm x' H) S w' := by
  have hbs : ∃ s ∈ S, s0.heap.size ≤ s.heap.size := ⟨s0, hs0, Nat.le_refl _⟩
  obtain ⟨fa0, fa2, fa3, fa1, fa16, _⟩ := form_args hform
  obtain ⟨fn1, fn2⟩ := num_range hform
  obtain ⟨p0, v0, rfl, rfl, he0⟩ := hE.one (by omega)
  have hin0 := hin p0 (by simp)
  unfold xI at hc ⊢
  refine enter Try.func141 rfl Try.ntmps141 rfl hc ?_
  (simp only [argEnv, Nat.zero_add, Nat.reduceAdd])
  unfold inC
  apply W.sr
  apply OL.box; rfl; rfl; exact CellsL.agg; (intro bk hbk; have hbk0 := hbk.mem s0 hs0)
  apply OL.alloc; rfl; rfl; exact CellsL.agg; (intro bk hbk; have hbk0 := hbk.mem s0 hs0)
  apply oas; rfl; rfl
  apply OL.nx
  apply W.seq
  apply W.sr
  apply ofa; rfl; rfl; rfl
  apply old; rfl; rfl; exact .tail _ (.head _); rfl; rfl
  apply OL.nx
  apply W.block
  apply W.sr
  apply obn; rfl; rfl; rfl; apply Bin.eql
  apply oas; rfl; rfl
  apply OL.nx
  rename_i b4 hb4 hb40
  revert hbk0
  revert bk
  intro b6 hb6 hb60
  (refine W.cnd (fun hq0 => ?_) (fun hq0 => ?_)) <;> (try (exfalso; first | omega | exact hq0 trivial | contradiction))
  apply W.seq
  apply W.sr
  apply obn; rfl; rfl; rfl; apply Bin.eql
  apply oas; rfl; rfl
  apply OL.nx
  (refine W.cnd (fun hq1 => ?_) (fun hq1 => ?_)) <;> (try (exfalso; first | omega | exact hq1 trivial | contradiction))
  apply W.sr
  apply obn; rfl; rfl; rfl; apply Bin.eql
  apply oas; rfl; rfl
  apply OL.nx
  (refine W.cnd (fun hq2 => ?_) (fun hq2 => ?_)) <;> (try (exfalso; first | omega | exact hq2 trivial | contradiction))
  apply W.sr
  apply obn; rfl; rfl; rfl; apply Bin.eql
  apply oas; rfl; rfl
  apply OL.nx
  (refine W.cnd (fun hq3 => ?_) (fun hq3 => ?_)) <;> (try (exfalso; first | omega | exact hq3 trivial | contradiction))
  apply W.sr
  apply obn; rfl; rfl; rfl; apply Bin.eql
  apply oas; rfl; rfl
  apply OL.nx
  (refine W.cnd (fun hq4 => ?_) (fun hq4 => ?_)) <;> (try (exfalso; first | omega | exact hq4 trivial | contradiction))
  apply W.sr
  apply obn; rfl; rfl; rfl; apply Bin.eql
  apply oas; rfl; rfl
  apply OL.nx
  (refine W.cnd (fun hq5 => ?_) (fun hq5 => ?_)) <;> (try (exfalso; first | omega | exact hq5 trivial | contradiction))
  apply W.sr
  apply obn; rfl; rfl; rfl; apply Bin.eql
  apply oas; rfl; rfl
  apply OL.nx
  (refine W.cnd (fun hq6 => ?_) (fun hq6 => ?_)) <;> (try (exfalso; first | omega | exact hq6 trivial | contradiction))
  apply W.reg
  apply obn; rfl; rfl; rfl; apply Bin.eql
  apply oas; rfl; rfl
  apply OL.nx
  (refine W.cnd (fun hq7 => ?_) (fun hq7 => ?_)) <;> (try (exfalso; first | omega | exact hq7 trivial | contradiction))
  apply W.sr
  apply obn; rfl; rfl; rfl; apply Bin.eql
  apply oas; rfl; rfl
  apply OL.nx
  (refine W.cnd (fun hq8 => ?_) (fun hq8 => ?_)) <;> (try (exfalso; first | omega | exact hq8 trivial | contradiction))
  apply W.sr
  apply obn; rfl; rfl; rfl; apply Bin.eql
  apply oas; rfl; rfl
  apply OL.nx
  (refine W.cnd (fun hq9 => ?_) (fun hq9 => ?_)) <;> (try (exfalso; first | omega | exact hq9 trivial | contradiction))
  apply W.seq
  apply W.sr
  apply obn; rfl; rfl; rfl; apply Bin.eql
  apply oas; rfl; rfl
  apply OL.nx
  (refine W.cnd (fun hq10 => ?_) (fun hq10 => ?_)) <;> (try (exfalso; first | omega | exact hq10 trivial | contradiction))
  apply W.sr
  apply obn; rfl; rfl; rfl; apply Bin.eql
  apply oas; rfl; rfl
  apply OL.nx
  (refine W.cnd (fun hq11 => ?_) (fun hq11 => ?_)) <;> (try (exfalso; first | omega | exact hq11 trivial | contradiction))
  apply W.sr
  apply obn; rfl; rfl; rfl; apply Bin.eql
  apply oas; rfl; rfl
  apply OL.nx
  (refine W.cnd (fun hq12 => ?_) (fun hq12 => ?_)) <;> (try (exfalso; first | omega | exact hq12 trivial | contradiction))
  apply W.reg
  apply obn; rfl; rfl; rfl; apply Bin.eql
  apply oas; rfl; rfl
  apply OL.nx
  (refine W.cnd (fun hq13 => ?_) (fun hq13 => ?_)) <;> (try (exfalso; first | omega | exact hq13 trivial | contradiction))
  apply W.seq
  apply W.sr
  apply obn; rfl; rfl; rfl; apply Bin.eql
  apply oas; rfl; rfl
  apply OL.nx
  (refine W.cnd (fun hq14 => ?_) (fun hq14 => ?_)) <;> (try (exfalso; first | omega | exact hq14 trivial | contradiction))
  apply W.sr
  apply obn; rfl; rfl; rfl; apply Bin.eql
  apply oas; rfl; rfl
  apply OL.nx
  (refine W.cnd (fun hq15 => ?_) (fun hq15 => ?_)) <;> (try (exfalso; first | omega | exact hq15 trivial | contradiction))
  apply W.reg
  apply obn; rfl; rfl; rfl; apply Bin.eql
  apply oas; rfl; rfl
  apply OL.nx
  (refine W.cnd (fun hq16 => ?_) (fun hq16 => ?_)) <;> (try (exfalso; first | omega | exact hq16 trivial | contradiction))
  apply W.sr
  apply oop; rfl; apply Pev.load_blkA; rfl; exact yes; exact .tail _ (.head _); rfl; exact Take.au
  apply omv; rfl; rfl
  obtain ⟨v, t, hv⟩ : ∃ v t, laneA i.n p0 = (v, t) := ⟨_, _, rfl⟩
  (((first | (with_reducible apply OL.op) | (with_reducible apply QL.op)); (exact Guard.au); rfl; rfl); (exact Pev.call (v := .tuple #[.agg (pC v).toArray, .int .i64 t]) rfl (by exact Args.au) (fun _ w2 hw2 => (vec_lane i iy hop (fn1 (.inr hop)) _ (some ⟨bt, 0, none⟩) _ p0 rfl w2 (argsAt hw2 (.tail _ (.tail _ (.head _))) (.tail _ (.tail _ (.tail _ (.tail _ (.tail _ (.head _)))))) hin)).mono (fun e w3 h => ⟨by rw [h.1, hv], hw2.ext h.2⟩))))
  apply oex; rfl; rfl; rfl
  apply oex; rfl; rfl; rfl
  apply OL.storeB; rfl; rfl; exact CellsL.agg; rfl; rfl; rfl; exact Swap.au; exact Put.au
  apply oas; rfl; rfl
  apply OL.nx
  refine W.rt ?_
  exact At.finCT (b := b6) (cs := [.int .i64 v.k, .int .i64 v.n, .slice v.q v.l.length v.cap, .pointer (if v.k = 3 then some ⟨v.b, 0, none⟩ else none)]) rfl rfl (by exact mau) rfl rfl rfl (fun w' hw' => ⟨v, t, x, rfl, by rw [hop]; exact ex_24 hx he0 hv hin0, hw'.thin (.any (fun k hk => by rw [show k = b6 from hk]; exact hb6) (.any (fun k hk => by rw [show k = b4 from hk]; exact hb4) Thin.same))⟩)
theorem exec_23 (bm : Nat) (i : Go.Ss.In) (iy : Sc) (hform : formE i = 0) (hop : i.op = 23) (vs : List PV) (svs : List SV) (x : XS) (sA : List (List SV)) (hx : XOk x sA) (hvl : vs.length = i.args.length) (bt : Nat) (hE : Ers (bxN x.bs) vs svs) (hin : ∀ p ∈ vs, InP x.L p) (nf : Nat) (hwf : ∀ v ∈ svs, WfV nf sA.length v) (H : List Eng.Item) (S : List World) (s0 : World) (hs0 : s0 ∈ S) (w : World)
    (hc : Cls (blk bt 198 (cat pC vs) :: xI s0.heap.size bm x H) S w) :
    Calls Try.prog 141 [.pointer (some ⟨bm, 0, none⟩), .agg (inC i iy).toArray, .slice (some ⟨bt, 0, none⟩) vs.length vs.length].toArray w fun e w' =>
      ∃ v t x', e = .returned (.tuple #[.agg (pC v).toArray, .int .i64 t]) ∧ ExR (insP i.op i.n svs sA x.out) x x' vs bt v t ∧ Cls (blk bt 198 (cat pC vs) :: xI s0.heap.size bm x' H) S w' := by
  have hbs : ∃ s ∈ S, s0.heap.size ≤ s.heap.size := ⟨s0, hs0, Nat.le_refl _⟩
  obtain ⟨fa0, fa2, fa3, fa1, fa16, _⟩ := form_args hform
  obtain ⟨fn1, fn2⟩ := num_range hform
  obtain ⟨p0, p1, v0, v1, rfl, rfl, he0, he1⟩ := hE.two (by omega)
  have hin0 := hin p0 (by simp)
  have hin1 := hin p1 (by simp)
  unfold xI at hc ⊢
  refine enter Try.func141 rfl Try.ntmps141 rfl hc ?_
  (simp only [argEnv, Nat.zero_add, Nat.reduceAdd])
  unfold inC
  apply W.sr
  apply OL.box; rfl; rfl; exact CellsL.agg; (intro bk hbk; have hbk0 := hbk.mem s0 hs0)
  apply OL.alloc; rfl; rfl; exact CellsL.agg; (intro bk hbk; have hbk0 := hbk.mem s0 hs0)
  apply oas; rfl; rfl
  apply OL.nx
  apply W.seq
  apply W.sr
  apply ofa; rfl; rfl; rfl
  apply old; rfl; rfl; exact .tail _ (.head _); rfl; rfl
  apply OL.nx
  apply W.block
  apply W.sr
  apply obn; rfl; rfl; rfl; apply Bin.eql
  apply oas; rfl; rfl
  apply OL.nx
  rename_i b4 hb4 hb40
  revert hbk0
  revert bk
  intro b6 hb6 hb60
  (refine W.cnd (fun hq0 => ?_) (fun hq0 => ?_)) <;> (try (exfalso; first | omega | exact hq0 trivial | contradiction))
  apply W.seq
  apply W.sr
  apply obn; rfl; rfl; rfl; apply Bin.eql
  apply oas; rfl; rfl
  apply OL.nx
  (refine W.cnd (fun hq1 => ?_) (fun hq1 => ?_)) <;> (try (exfalso; first | omega | exact hq1 trivial | contradiction))
  apply W.sr
  apply obn; rfl; rfl; rfl; apply Bin.eql
  apply oas; rfl; rfl
  apply OL.nx
  (refine W.cnd (fun hq2 => ?_) (fun hq2 => ?_)) <;> (try (exfalso; first | omega | exact hq2 trivial | contradiction))
  apply W.sr
  apply obn; rfl; rfl; rfl; apply Bin.eql
  apply oas; rfl; rfl
  apply OL.nx
  (refine W.cnd (fun hq3 => ?_) (fun hq3 => ?_)) <;> (try (exfalso; first | omega | exact hq3 trivial | contradiction))
  apply W.sr
  apply obn; rfl; rfl; rfl; apply Bin.eql
  apply oas; rfl; rfl
  apply OL.nx
  (refine W.cnd (fun hq4 => ?_) (fun hq4 => ?_)) <;> (try (exfalso; first | omega | exact hq4 trivial | contradiction))
  apply W.sr
  apply obn; rfl; rfl; rfl; apply Bin.eql
  apply oas; rfl; rfl
  apply OL.nx
  (refine W.cnd (fun hq5 => ?_) (fun hq5 => ?_)) <;> (try (exfalso; first | omega | exact hq5 trivial | contradiction))
  apply W.sr
  apply obn; rfl; rfl; rfl; apply Bin.eql
  apply oas; rfl; rfl
  apply OL.nx
  (refine W.cnd (fun hq6 => ?_) (fun hq6 => ?_)) <;> (try (exfalso; first | omega | exact hq6 trivial | contradiction))
  apply W.reg
  apply obn; rfl; rfl; rfl; apply Bin.eql
  apply oas; rfl; rfl
  apply OL.nx
  (refine W.cnd (fun hq7 => ?_) (fun hq7 => ?_)) <;> (try (exfalso; first | omega | exact hq7 trivial | contradiction))
  apply W.sr
  apply obn; rfl; rfl; rfl; apply Bin.eql
  apply oas; rfl; rfl
  apply OL.nx
  (refine W.cnd (fun hq8 => ?_) (fun hq8 => ?_)) <;> (try (exfalso; first | omega | exact hq8 trivial | contradiction))
  apply W.sr
  apply obn; rfl; rfl; rfl; apply Bin.eql
  apply oas; rfl; rfl
  apply OL.nx
  (refine W.cnd (fun hq9 => ?_) (fun hq9 => ?_)) <;> (try (exfalso; first | omega | exact hq9 trivial | contradiction))
  apply W.seq
  apply W.sr
  apply obn; rfl; rfl; rfl; apply Bin.eql
  apply oas; rfl; rfl
  apply OL.nx
  (refine W.cnd (fun hq10 => ?_) (fun hq10 => ?_)) <;> (try (exfalso; first | omega | exact hq10 trivial | contradiction))
  apply W.sr
  apply obn; rfl; rfl; rfl; apply Bin.eql
  apply oas; rfl; rfl
  apply OL.nx
  (refine W.cnd (fun hq11 => ?_) (fun hq11 => ?_)) <;> (try (exfalso; first | omega | exact hq11 trivial | contradiction))
  apply W.sr
  apply obn; rfl; rfl; rfl; apply Bin.eql
  apply oas; rfl; rfl
  apply OL.nx
  (refine W.cnd (fun hq12 => ?_) (fun hq12 => ?_)) <;> (try (exfalso; first | omega | exact hq12 trivial | contradiction))
  apply W.reg
  apply obn; rfl; rfl; rfl; apply Bin.eql
  apply oas; rfl; rfl
  apply OL.nx
  (refine W.cnd (fun hq13 => ?_) (fun hq13 => ?_)) <;> (try (exfalso; first | omega | exact hq13 trivial | contradiction))
  apply W.seq
  apply W.sr
  apply obn; rfl; rfl; rfl; apply Bin.eql
  apply oas; rfl; rfl
  apply OL.nx
  (refine W.cnd (fun hq14 => ?_) (fun hq14 => ?_)) <;> (try (exfalso; first | omega | exact hq14 trivial | contradiction))
  apply W.sr
  apply obn; rfl; rfl; rfl; apply Bin.eql
  apply oas; rfl; rfl
  apply OL.nx
  (refine W.cnd (fun hq15 => ?_) (fun hq15 => ?_)) <;> (try (exfalso; first | omega | exact hq15 trivial | contradiction))
  apply W.sk
  (refine W.cnd (fun hq16 => ?_) (fun hq16 => ?_)) <;> (try (exfalso; first | omega | exact hq16 trivial | contradiction))
  apply W.sr
  apply oop; rfl; apply Pev.load_blkA; rfl; exact yes; exact .tail _ (.head _); rfl; exact Take.au
  apply omv; rfl; rfl
  have hnoB : ∀ w2 : World, Cls H S w2 → True := fun _ _ => trivial
  by_cases hc : p0.k ≠ 4 ∨ p1.k ≠ 4 ∨ p0.l.length ≠ p1.l.length
  · (((first | (with_reducible apply OL.op) | (with_reducible apply QL.op)); (exact Guard.au); rfl; rfl); (exact Pev.call (v := .tuple #[.agg (pC zP).toArray, .int .i64 5]) rfl (by exact Args.au) (fun _ w2 hw2 => (vec_new i iy (fn2 hop) hop [p0, p1] (some ⟨bt, 0, none⟩) 2 p0 p1 rfl w2 (argsAt hw2 (.tail _ (.tail _ (.head _))) (.tail _ (.tail _ (.tail _ (.tail _ (.tail _ (.head _)))))) hin)).mono (fun e w3 h => ⟨by rcases h.2 with h | h; exact h.2; exact absurd hc h.1, hw2.ext h.1⟩))))
    apply oex; rfl; rfl; rfl
    apply oex; rfl; rfl; rfl
    apply OL.storeB; rfl; rfl; exact CellsL.agg; rfl; rfl; rfl; exact Swap.au; exact Put.au
    apply oas; rfl; rfl
    apply OL.nx
    refine W.rt ?_
    exact At.finCT (b := b6) (cs := [.int .i64 0, .int .i64 0, .slice none 0 0, .pointer none]) rfl rfl (by exact mau) rfl rfl rfl (fun w' hw' => ⟨zP, 5, x, rfl, by rw [hop]; exact ex_23t he0 he1 hc, hw'.thin (.any (fun k hk => by rw [show k = b6 from hk]; exact hb6) (.any (fun k hk => by rw [show k = b4 from hk]; exact hb4) Thin.same))⟩)
  refine OL.callE (α := PV × (Nat → Prop)) (fun y => .tuple #[.agg (pC y.1).toArray, .int .i64 0]) (fun y => y.1.k = 4 ∧ y.1.n = 0 ∧ y.1.l = List.zipWith (fun x y => pw (binV i.n x.n y.n)) p0.l p1.l) (fun y => Cls (blk b6 198 [.int .i64 0, .int .i64 0, .slice none 0 0, .pointer none] :: blk b4 85 [.int .i64 i.to_, .int .i64 i.op, .int .i64 i.n, .slice iy.1 i.args.length iy.2] :: blk bt 198 (cat pC [p0, p1]) :: blk bm 160 x.m.c :: row s0.heap.size x.Oo x.m.qo x.m.no x.m.co 3 1 (ints x.out) :: pool (pvR pF) s0.heap.size y.2 (x.L ++ [(y.1, ())]) :: bag s0.heap.size (arI x.A) :: H) S) rfl rfl (by exact Args.au) (fun w2 hw2 => (vec_new i iy (fn2 hop) hop [p0, p1] (some ⟨bt, 0, none⟩) 2 p0 p1 rfl w2 (argsAt hw2 (.tail _ (.tail _ (.head _))) (.tail _ (.tail _ (.tail _ (.tail _ (.tail _ (.head _)))))) hin)).mono fun e w3 h => ?_) ?_
  · obtain ⟨h1, h2⟩ := h
    rcases h2 with ⟨h2, _⟩ | ⟨_, v, h3, h4, h5, h6, h7⟩
    · exact absurd h2 hc
    · exact ⟨(v, fun k => x.Op k ∨ fresh w2 w3 k), h6, ⟨h3, h4, h5⟩, hw2.pool_push (.s (.s (.s (.s (.s .z))))) (hw2.kp s0 hs0).size h1 h7⟩
  rintro ⟨v, O'⟩ ⟨h3, h4, h5⟩
  apply oex; rfl; rfl; rfl
  apply oex; rfl; rfl; rfl
  apply OL.storeB; rfl; rfl; exact CellsL.agg; rfl; rfl; rfl; exact Swap.au; exact Put.au
  apply oas; rfl; rfl
  apply OL.nx
  refine W.rt ?_
  exact At.finCT (b := b6) (cs := [.int .i64 v.k, .int .i64 v.n, .slice v.q v.l.length v.cap, .pointer (if v.k = 3 then some ⟨v.b, 0, none⟩ else none)]) rfl rfl (by exact mau) rfl rfl rfl (fun w' hw' => ⟨v, 0, { x with L := x.L ++ [(v, ())], Op := O' }, rfl, by rw [hop]; exact ex_23 hx he0 he1 (hwf v0 (by simp)) (hwf v1 (by simp)) hc h3 h4 h5, hw'.thin (.any (fun k hk => by rw [show k = b6 from hk]; exact hb6) (.any (fun k hk => by rw [show k = b4 from hk]; exact hb4) Thin.same))⟩)
end Go.Proofs.Ytehelljmaiophaa.ss
