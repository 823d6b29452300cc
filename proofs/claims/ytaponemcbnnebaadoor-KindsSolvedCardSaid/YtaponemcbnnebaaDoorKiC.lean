/- The walks of kinds.Find and of the solver's params. Conditions: none. -/
import Derived.Test.YtaponemcbnnebaaDoorKiB
import Derived.Test.YtaponemcbnnebaaDoorCat
import Derived.Test.YtaponemcbnnebaaDoorGat
namespace Go.Ki
open Go.Eng
set_option linter.unusedVariables false
set_option linter.unusedSimpArgs false
/-- a data type as the solver reads it -/
structure DS where
  nm : ByteArray
  params : Nat
  q : Option Addr
  len : Nat
  cap : Nat
def dc (d : DS) : List Value := [.string d.nm, .int .i64 (d.params : Int), .slice d.q d.len d.cap]
def kc (s : ByteArray) : List Value := [.string s, .slice none 0 0]
theorem dlen (d : DS) : (dc d).length = 3 := rfl
theorem klen (s : ByteArray) : (kc s).length = 2 := rfl
/-- the slots of the parameters of a type -/
def psF (kn : List ByteArray) (nm : ByteArray) : List DS → List Nat → Option (List Nat)
  | d :: ds, f :: fi => if d.nm = nm then some ((List.range d.params).map (f + ·)) else psF kn nm ds fi
  | _, _ => if hasB kn nm then some [] else none
theorem psF_get {kn : List ByteArray} {nm : ByteArray} {ds : List DS} {fi : List Nat} {i : Nat} {d : DS} {f : Nat} (hd : ds[i]? = some d) (hf : fi[i]? = some f) : psF kn nm (ds.drop i) (fi.drop i) = if d.nm = nm then some ((List.range d.params).map (f + ·)) else psF kn nm (ds.drop (i + 1)) (fi.drop (i + 1)) := by
  obtain ⟨h1, rfl⟩ := List.getElem?_eq_some_iff.1 hd
  obtain ⟨h2, rfl⟩ := List.getElem?_eq_some_iff.1 hf
  rw [List.drop_eq_getElem_cons h1, List.drop_eq_getElem_cons h2, psF]
theorem psF_end {kn : List ByteArray} {nm : ByteArray} {ds : List DS} {fi : List Nat} {i : Nat} (h : ds.length ≤ i) : psF kn nm (ds.drop i) (fi.drop i) = if hasB kn nm then some [] else none := by
  rw [List.drop_eq_nil_of_le h]
  cases fi.drop i <;> rfl
end Go.Ki
namespace Go.Proofs.YtaponemcbnnebaaDoor.ki
open Go.RowKit Go.Eng Go.Ki
set_option linter.unusedVariables false
set_option linter.unusedSimpArgs false
set_option maxRecDepth 100000

theorem Find_calls (kn : List ByteArray) (nm : ByteArray) (q : Option Addr) (cap : Nat) (w : World) (hlen : kn.length ≤ 9223372036854775807) (h : SlAt w w.heap.size q (cat kc kn)) :
    Calls Tryd.prog 27 #[.slice q kn.length cap, .string nm] w fun e w' => e = .returned (.tuple #[.slice none 0 0, .bool (hasB kn nm)]) ∧ Ext w w' := by
  refine enter Tryd.func27 rfl Tryd.ntmps27 rfl (Cls.start w) ?_
  (simp only [argEnv, Nat.zero_add, Nat.reduceAdd])
  apply W.seq
  apply W.reg
  apply oas; rfl; rfl
  apply oas; rfl; rfl
  apply OL.nil
  with_reducible apply At.next
  apply W.seq
  apply W.seq
  apply W.reg
  apply omv; rfl; rfl
  apply OL.op; exact Guard.none; rfl; rfl; apply Pev.len_slice; rfl; exact yes; rfl
  apply omv; rfl; rfl
  apply OL.nil
  with_reducible apply At.next
  apply W.block
  refine W.loop (G := Nat) (fun i => i ≤ kn.length ∧ hasB (kn.drop i) nm = hasB kn nm) (fun i => kn.length - i)
    (fun i => [(1, true, .string nm), (8, true, .slice q kn.length cap), (9, true, .int .i64 (kn.length : Int)), (10, true, .int .i64 (i : Int))])
    (fun i => Cls [] [w]) 0 ⟨by omega, rfl⟩ (by (repeat (first | exact Sub.nil | apply Sub.cons rfl | (refine Sub.cons_eq rfl (congrArg (Value.int .i64) (by first | omega | (simp only; omega))) ?_)))) (fun w' hw' => hw') ?_
  rintro i ⟨hi, hrest⟩
  apply W.seq
  apply W.reg
  apply obn; rfl; rfl; rfl; apply Bin.lss
  apply OL.nil
  with_reducible apply At.next
  apply W.seq
  (refine W.cond rfl (fun hlt => ?_) (fun hlt => ?_)) <;> (try (simp only [Bool.and_eq_true, Bool.or_eq_true, Bool.not_eq_true', Bool.and_eq_false_iff, Bool.or_eq_false_iff, Bool.not_eq_false', decide_eq_true_eq, decide_eq_false_iff_not, Int.not_lt, Int.not_le] at hlt)) <;> (try (exfalso; first | omega | exact hlt trivial | contradiction))
  · have hil : i < kn.length := by omega
    obtain ⟨a, u, rfl, hab, hu, hc⟩ := SlAt.elem h klen (by decide) hil
    have hst : hasB (kn.drop i) nm = (decide (nm = u) || hasB (kn.drop (i + 1)) nm) := by
      obtain ⟨h1, rfl⟩ := List.getElem?_eq_some_iff.1 hu
      rw [List.drop_eq_getElem_cons h1]; rfl
    rw [hst] at hrest
    simp only [kc] at hc
    apply W.skip
    with_reducible apply At.next
    apply W.seq
    apply W.block
    apply W.seq
    apply W.reg
    apply OL.op; exact Guard.none; rfl; rfl; apply Pev.idx; rfl; exact yes; rfl; exact yes; rfl; rfl; intro hcond; omega
    apply OL.op; exact Guard.none; rfl; rfl; apply Pev.load_keptA; rfl; exact yes; exact .head _; rfl; intro hcond; assumption; rfl; intro hcond; (rw [add_block]; assumption); intro hcond; exact NotOwned.nil
    apply OL.alloc; rfl; rfl; exact CellsL.agg; (intro bk hbk; simp only [AllLe, and_true] at hbk)
    apply OL.storeB; rfl; rfl; exact CellsL.agg; rfl; rfl; rfl; apply Swap.z; apply Put.here; apply Over.cons; apply Over.cons; apply Over.nil
    apply OL.nil
    with_reducible apply At.next
    apply W.seq
    apply W.reg
    apply ofa; rfl; rfl; rfl
    apply old; rfl; rfl; exact .head _; rfl; rfl
    apply omv; rfl; rfl
    apply obn; rfl; rfl; rfl; apply Bin.str_eql
    apply OL.nil
    with_reducible apply At.next
    refine W.cond rfl (fun hb => ?_) (fun hb => ?_)
    · have e : nm = u := (of_decide_eq_true hb).symm
      apply W.seq
      apply W.reg
      apply ofa; rfl; rfl; rfl
      apply old; rfl; rfl; exact .head _; rfl; rfl
      apply oas; rfl; rfl
      apply oas; rfl; rfl
      apply OL.nil
      with_reducible apply At.next
      apply W.ret
      with_reducible apply At.in_ret
      with_reducible apply At.then_ret
      with_reducible apply At.then_ret
      with_reducible apply At.in_ret
      with_reducible apply At.then_ret
      ((with_reducible apply At.fin2); rfl; rfl; rfl; intro w' hw')
      exact ⟨by rw [← hrest, decide_eq_true e]; rfl, by (exact hw'.toExt (by (repeat (first | exact List.Mem.head _ | apply List.Mem.tail))) (fun k hk => by (focus ((try simp only [add_block]); (repeat (first | exact NotOwned.nil | exact hno _ (by omega) | refine NotOwned.nothing ?_ | refine NotOwned.nds (hlow _ (by omega)) ?_ | refine NotOwned.mapS (by omega) ?_ | apply NotOwned.bif | refine NotOwned.blk (by omega) ?_ | refine NotOwned.row (by omega) ?_ | refine NotOwned.grid (by assumption) (by omega) ?_ | refine NotOwned.pile (by omega) ?_)); done))))⟩
    · have e : ¬ nm = u := fun e => (of_decide_eq_false hb) e.symm
      rw [decide_eq_false e, Bool.false_or] at hrest
      apply W.skip
      with_reducible apply At.in_normal
      with_reducible apply At.next
      apply W.reg
      apply obn; rfl; rfl; rfl; apply Bin.add_in; omega
      apply omv; rfl; rfl
      apply OL.nil
      exact At.again (i + 1) ⟨by omega, hrest⟩ (by omega) (by (repeat (first | exact Sub.nil | apply Sub.cons rfl | (refine Sub.cons_eq rfl (congrArg (Value.int .i64) (by first | omega | (simp only; omega))) ?_)))) (fun w' hw' => hw'.thin (by (repeat (first | exact Thin.nil | exact Thin.same | apply Thin.keep | (refine Thin.blk (by assumption) ?_) | (refine Thin.blk (by simp only [AllLe, and_true]; omega) ?_)))))
  · rw [List.drop_eq_nil_of_le (by omega)] at hrest
    apply W.exit
    with_reducible apply At.then_exit
    with_reducible apply At.then_exit
    with_reducible apply At.in_exit
    with_reducible apply At.next
    apply W.seq
    apply W.reg
    apply oas; rfl; rfl
    apply oas; rfl; rfl
    apply OL.nil
    with_reducible apply At.next
    apply W.ret
    ((with_reducible apply At.fin2); rfl; rfl; rfl; intro w' hw')
    exact ⟨by rw [← hrest]; rfl, by (exact hw'.toExt (by (repeat (first | exact List.Mem.head _ | apply List.Mem.tail))) (fun k hk => by (focus ((try simp only [add_block]); (repeat (first | exact NotOwned.nil | exact hno _ (by omega) | refine NotOwned.nothing ?_ | refine NotOwned.nds (hlow _ (by omega)) ?_ | refine NotOwned.mapS (by omega) ?_ | apply NotOwned.bif | refine NotOwned.blk (by omega) ?_ | refine NotOwned.row (by omega) ?_ | refine NotOwned.grid (by assumption) (by omega) ?_ | refine NotOwned.pile (by omega) ?_)); done))))⟩
/-- a slice of slots -/
structure GP where
  O : Nat → Prop
  q : Option Addr
  c : Nat
def gp0 : GP := ⟨fun _ => False, none, 0⟩
abbrev ri (B : Nat) (g : GP) (l : List Nat) : Eng.Item := row B g.O g.q l.length g.c 3 1 (nts l)
/-- what a solver reads and never writes -/
structure Rd (B : Nat) (s0 : World) (kn : List ByteArray) (ds : List DS) (fi : List Nat) (gf : GP) (L : Loc) : Prop where
  hB : B ≤ s0.heap.size
  lb : L.B = B
  ls : B ≤ L.bs
  hkn : kn.length ≤ 4096 ∧ ∃ q c, L.k1 = .slice q kn.length c ∧ SlAt s0 B q (cat kc kn)
  hds : ds.length ≤ 4096 ∧ ∃ q c, L.k2 = .slice q ds.length c ∧ SlAt s0 B q (cat dc ds)
  hfi : fi.length = ds.length ∧ L.k3 = .slice gf.q fi.length gf.c
  hpr : ∀ d ∈ ds, d.params ≤ 4096
  hfr : ∀ f ∈ fi, f ≤ 100000
theorem range_snoc (f p : Nat) : nts ((List.range p).map (f + ·)) ++ [.int .i64 ((f : Int) + (p : Int))] = nts ((List.range (p + 1)).map (f + ·)) := by
  simp [nts, List.range_succ]
theorem params_calls (B Bg : Nat) (s0 : World) (kn : List ByteArray) (ds : List DS) (fi : List Nat) (gf : GP) (L : Loc) (n : Nat) (σ : Sol) (H : List Eng.Item) (S : List World) (w : World) (nm : ByteArray)
    (hR : Rd B s0 kn ds fi gf L) (hBg : B ≤ Bg) (hbg : ∃ s ∈ s0 :: S, Bg ≤ s.heap.size) (hno : ∀ k, k < B → NotOwned H k) (hc : Cls (L.items n σ (ri B gf fi :: H)) (s0 :: S) w) :
    Calls Tryd.prog 29 #[.pointer (some ⟨L.bs, 0, none⟩), .string nm] w fun e w' => ∃ (g : GP), e = .returned (.tuple #[.slice g.q ((psF kn nm ds fi).getD []).length g.c, .bool (psF kn nm ds fi).isSome]) ∧
      Cls (ri Bg g ((psF kn nm ds fi).getD []) :: L.items n σ (ri B gf fi :: H)) (s0 :: S) w' := by
  obtain ⟨hknl, qk, ck, ek, hkn⟩ := hR.hkn
  obtain ⟨hdsl, qd, cd, ed, hds⟩ := hR.hds
  obtain ⟨hfil, ef⟩ := hR.hfi
  have hlb := hR.lb
  have hls := hR.ls
  have hBs := hR.hB
  have hpr := hR.hpr
  have hfr := hR.hfr
  clear hR
  obtain ⟨B', bs, k1, k2, k3, P1, q1, c1, P2, q2, c2⟩ := L
  obtain ⟨Of, qf, cf⟩ := gf
  simp only at hlb hls ek ed ef
  subst hlb ek ed ef
  simp only [Loc.items, Loc.cells, ri] at hc ⊢
  refine enter Tryd.func29 rfl Tryd.ntmps29 rfl hc ?_
  (simp only [argEnv, Nat.zero_add, Nat.reduceAdd])
  apply W.seq
  apply W.reg
  apply oas; rfl; rfl
  apply oas; rfl; rfl
  apply OL.nil
  with_reducible apply At.next
  apply W.seq
  apply W.reg
  apply oas; rfl; rfl
  apply OL.nil
  with_reducible apply At.next
  apply W.seq
  apply W.seq
  apply W.reg
  apply omv; rfl; rfl
  apply OL.op; exact Guard.none; rfl; rfl; apply Pev.nil_ptr; rfl; exact yes
  apply ofa; rfl; rfl; rfl
  apply old; rfl; rfl; exact .tail _ (.tail _ (.head _)); rfl; rfl
  apply OL.op; exact Guard.none; rfl; rfl; apply Pev.len_slice; rfl; exact yes; rfl
  apply omv; rfl; rfl
  apply OL.nil
  with_reducible apply At.next
  apply W.block
  refine W.loop (G := Nat) (fun i => i ≤ ds.length ∧ psF kn nm (ds.drop i) (fi.drop i) = psF kn nm ds fi) (fun i => ds.length - i)
    (fun i => [(19, true, .int .i64 (i : Int)), (18, true, .int .i64 (ds.length : Int)), (17, true, .slice qd ds.length cd), (6, true, .slice none 0 0), (0, true, .pointer (some ⟨bs, 0, none⟩)), (1, true, .string nm)])
    (fun i => Cls (row B' P1 q1 n c1 3 1 (nts σ.up) :: row B' P2 q2 n c2 3 1 (ins σ.kind) :: blk bs 64 [.slice qk kn.length ck, .slice qd ds.length cd, .slice qf fi.length cf, .slice q1 n c1, .slice q2 n c2] :: row B' Of qf fi.length cf 3 1 (nts fi) :: H) (s0 :: S)) 0 ⟨by omega, rfl⟩ (by (repeat (first | exact Sub.nil | apply Sub.cons rfl | (refine Sub.cons_eq rfl (congrArg (Value.int .i64) (by first | omega | (simp only; omega))) ?_)))) (fun w' hw' => hw') ?_
  rintro i ⟨hi, hrest⟩
  apply W.seq
  apply W.reg
  apply obn; rfl; rfl; rfl; apply Bin.lss
  apply OL.nil
  with_reducible apply At.next
  apply W.seq
  (refine W.cond rfl (fun hlt => ?_) (fun hlt => ?_)) <;> (try (simp only [Bool.and_eq_true, Bool.or_eq_true, Bool.not_eq_true', Bool.and_eq_false_iff, Bool.or_eq_false_iff, Bool.not_eq_false', decide_eq_true_eq, decide_eq_false_iff_not, Int.not_lt, Int.not_le] at hlt)) <;> (try (exfalso; first | omega | exact hlt trivial | contradiction))
  · have hil : i < ds.length := by omega
    obtain ⟨a, d, rfl, hab, hd, hcd⟩ := SlAt.elem hds dlen (by decide) hil
    simp only [dc] at hcd
    have hab2 : a.block < s0.heap.size := by omega
    obtain ⟨f, hf⟩ : ∃ f, fi[i]? = some f := ⟨_, List.getElem?_eq_getElem (by omega)⟩
    rw [psF_get hd hf] at hrest
    have hdp := hpr d (List.mem_of_getElem? hd)
    have hff := hfr f (List.mem_of_getElem? hf)
    apply W.skip
    with_reducible apply At.next
    apply W.seq
    apply W.block
    apply W.seq
    apply W.reg
    apply omv; rfl; rfl
    apply OL.op; exact Guard.none; rfl; rfl; apply Pev.idx; rfl; exact yes; rfl; exact yes; rfl; rfl; intro hcond; omega
    apply OL.op; exact Guard.none; rfl; rfl; apply Pev.load_keptA; rfl; exact yes; exact .head _; rfl; intro hcond; assumption; rfl; intro hcond; (rw [add_block]; assumption); intro hcond; simp only [add_block]; refine NotOwned.row (by omega) ?_; refine NotOwned.row (by omega) ?_; refine NotOwned.blk (by omega) ?_; refine NotOwned.row (by omega) ?_; exact hno _ (by omega)
    apply OL.alloc; rfl; rfl; exact CellsL.agg; (intro bk hbk; simp only [AllLe, and_true] at hbk)
    apply oas; rfl; rfl
    apply OL.storeB; rfl; rfl; exact CellsL.agg; rfl; rfl; rfl; apply Swap.z; apply Put.here; apply Over.cons; apply Over.cons; apply Over.cons; apply Over.nil
    apply OL.nil
    with_reducible apply At.next
    apply W.seq
    apply W.reg
    apply ofa; rfl; rfl; rfl
    apply old; rfl; rfl; exact .head _; rfl; rfl
    apply omv; rfl; rfl
    apply obn; rfl; rfl; rfl; apply Bin.str_eql
    apply OL.nil
    with_reducible apply At.next
    refine W.cond rfl (fun hb => ?_) (fun hb => ?_)
    · have e : d.nm = nm := of_decide_eq_true hb
      rw [if_pos e] at hrest
      obtain ⟨f0, hf0⟩ := row_some (hc.item (.tail _ (.tail _ (.tail _ (.head _))))) (show 0 < fi.length by omega)
      subst hf0
      have hcf := nts_get hf
      apply W.seq
      apply W.seq
      apply W.reg
      apply ofa; rfl; rfl; rfl
      apply old; rfl; rfl; exact .head _; rfl; rfl
      apply omv; rfl; rfl
      apply OL.nil
      with_reducible apply At.next
      apply W.block
      refine W.loop (G := Nat × GP) (fun g => g.1 ≤ d.params) (fun g => d.params - g.1)
        (fun g => [(30, true, .int .i64 (g.1 : Int)), (29, true, .int .i64 (d.params : Int)), (7, true, .int .i64 (i : Int)), (6, true, .slice g.2.q g.1 g.2.c), (0, true, .pointer (some ⟨bs, 0, none⟩))])
        (fun g => Cls (row Bg g.2.O g.2.q g.1 g.2.c 3 1 (nts ((List.range g.1).map (f + ·))) :: row B' P1 q1 n c1 3 1 (nts σ.up) :: row B' P2 q2 n c2 3 1 (ins σ.kind) :: blk bs 64 [.slice qk kn.length ck, .slice (some a) ds.length cd, .slice (some ⟨f0, 0, none⟩) fi.length cf, .slice q1 n c1, .slice q2 n c2] :: row B' Of (some ⟨f0, 0, none⟩) fi.length cf 3 1 (nts fi) :: H) (s0 :: S)) (0, gp0) (by simp) (by (repeat (first | exact Sub.nil | apply Sub.cons rfl | (refine Sub.cons_eq rfl (congrArg (Value.int .i64) (by first | omega | (simp only; omega))) ?_)))) (fun w' hw' => (hw'.thin (by (repeat (first | exact Thin.nil | exact Thin.same | apply Thin.keep | (refine Thin.blk (by assumption) ?_) | (refine Thin.blk (by simp only [AllLe, and_true]; omega) ?_))))).row_nil Bg _ 1) ?_
      rintro ⟨p, ⟨Op, qp, cp⟩⟩ hp
      simp only at hp ⊢
      apply W.seq
      apply W.reg
      apply obn; rfl; rfl; rfl; apply Bin.lss
      apply OL.nil
      with_reducible apply At.next
      apply W.seq
      (refine W.cond rfl (fun hlt2 => ?_) (fun hlt2 => ?_)) <;> (try (simp only [Bool.and_eq_true, Bool.or_eq_true, Bool.not_eq_true', Bool.and_eq_false_iff, Bool.or_eq_false_iff, Bool.not_eq_false', decide_eq_true_eq, decide_eq_false_iff_not, Int.not_lt, Int.not_le] at hlt2)) <;> (try (exfalso; first | omega | exact hlt2 trivial | contradiction))
      · apply W.skip
        with_reducible apply At.next
        apply W.seq
        apply W.block
        apply W.seq
        apply W.reg
        apply omv; rfl; rfl
        apply oas; rfl; rfl
        apply OL.nil
        with_reducible apply At.next
        apply W.reg
        apply omv; rfl; rfl
        apply omv; rfl; rfl
        apply OL.op; exact Guard.none; rfl; rfl; apply Pev.nil_ptr; rfl; exact yes
        apply ofa; rfl; rfl; rfl
        apply old; rfl; rfl; apply List.Mem.tail; exact .tail _ (.tail _ (.head _)); rfl; rfl
        apply omv; rfl; rfl
        apply OL.op; exact Guard.none; rfl; rfl; apply Pev.idxB; rfl; exact yes; rfl; exact yes; rfl; intro hcond; omega; rfl
        apply OL.op; exact Guard.none; rfl; rfl; apply Pev.load_row; rfl; exact yes; apply List.Mem.tail; apply List.Mem.tail; exact .tail _ (.tail _ (.head _)); rfl; assumption
        apply omv; rfl; rfl
        apply obn; rfl; rfl; rfl; apply Bin.add_in; omega
        apply OL.buildSlice; rfl; rfl; rfl; apply Elems.cons rfl; exact CellsL.one rfl; rfl; apply Elems.nil; apply App.cons; apply App.nil; rfl; rfl; (intro bk hbk; simp only [AllLe, and_true] at hbk)
        apply OL.append; rfl; rfl; rfl; rfl; apply Hole.s; apply Hole.z; exact .head _; apply Take.succ; apply Take.zero; rfl; rfl; assumption; omega; intro O1 g1 cap1
        apply oas; rfl; rfl
        apply OL.nil
        with_reducible apply At.in_normal
        with_reducible apply At.next
        apply W.reg
        apply obn; rfl; rfl; rfl; apply Bin.add_in; omega
        apply omv; rfl; rfl
        apply OL.nil
        rw [range_snoc]
        exact At.again (p + 1, ⟨O1, some ⟨g1, 0, none⟩, cap1⟩) (by simp only; omega) (by simp only; omega) (by (repeat (first | exact Sub.nil | apply Sub.cons rfl | (refine Sub.cons_eq rfl (congrArg (Value.int .i64) (by first | omega | (simp only; omega))) ?_)))) (fun w' hw' => hw'.thin (by (repeat (first | exact Thin.nil | exact Thin.same | apply Thin.keep | (refine Thin.blk (by assumption) ?_) | (refine Thin.blk (by simp only [AllLe, and_true]; omega) ?_)))))
      · have : p = d.params := by omega
        subst this
        apply W.exit
        with_reducible apply At.then_exit
        with_reducible apply At.then_exit
        with_reducible apply At.in_exit
        with_reducible apply At.next
        apply W.seq
        apply W.reg
        apply omv; rfl; rfl
        apply oas; rfl; rfl
        apply oas; rfl; rfl
        apply OL.nil
        with_reducible apply At.next
        apply W.ret
        with_reducible apply At.in_ret
        with_reducible apply At.then_ret
        with_reducible apply At.then_ret
        with_reducible apply At.in_ret
        with_reducible apply At.then_ret
        ((with_reducible apply At.fin2); rfl; rfl; rfl; intro w' hw')
        rw [← hrest]
        exact ⟨⟨Op, qp, cp⟩, by simp, by simpa using hw'⟩
    · have e : ¬ d.nm = nm := of_decide_eq_false hb
      rw [if_neg e] at hrest
      apply W.skip
      with_reducible apply At.in_normal
      with_reducible apply At.next
      apply W.reg
      apply obn; rfl; rfl; rfl; apply Bin.add_in; omega
      apply omv; rfl; rfl
      apply OL.nil
      exact At.again (i + 1) ⟨by omega, hrest⟩ (by omega) (by (repeat (first | exact Sub.nil | apply Sub.cons rfl | (refine Sub.cons_eq rfl (congrArg (Value.int .i64) (by first | omega | (simp only; omega))) ?_)))) (fun w' hw' => hw'.thin (by (repeat (first | exact Thin.nil | exact Thin.same | apply Thin.keep | (refine Thin.blk (by assumption) ?_) | (refine Thin.blk (by simp only [AllLe, and_true]; omega) ?_)))))
  · rw [psF_end (by omega)] at hrest
    apply W.exit
    with_reducible apply At.then_exit
    with_reducible apply At.then_exit
    with_reducible apply At.in_exit
    with_reducible apply At.next
    apply W.seq
    apply W.reg
    apply omv; rfl; rfl
    apply OL.op; exact Guard.none; rfl; rfl; apply Pev.nil_ptr; rfl; exact yes
    apply ofa; rfl; rfl; rfl
    apply old; rfl; rfl; exact .tail _ (.tail _ (.head _)); rfl; rfl
    apply omv; rfl; rfl
    have hF := fun (w2 : World) (hw2 : Cls (row B' P1 q1 n c1 3 1 (nts σ.up) :: row B' P2 q2 n c2 3 1 (ins σ.kind) :: blk bs 64 [.slice qk kn.length ck, .slice qd ds.length cd, .slice qf fi.length cf, .slice q1 n c1, .slice q2 n c2] :: row B' Of qf fi.length cf 3 1 (nts fi) :: H) (s0 :: S) w2) => Find_calls kn nm qk ck w2 (by omega) (hkn.keep (hw2.below (s := s0) (.head _) hBs (fun k hk => by (focus ((try simp only [add_block]); (repeat (first | exact NotOwned.nil | exact hno _ (by omega) | refine NotOwned.nothing ?_ | refine NotOwned.nds (hlow _ (by omega)) ?_ | refine NotOwned.mapS (by omega) ?_ | apply NotOwned.bif | refine NotOwned.blk (by omega) ?_ | refine NotOwned.row (by omega) ?_ | refine NotOwned.grid (by assumption) (by omega) ?_ | refine NotOwned.pile (by omega) ?_)); done)))) (Nat.le_trans hBs (hw2.kp s0 (.head _)).size))
    (((first | (with_reducible apply OL.op) | (with_reducible apply QL.op)); ((first | exact Guard.none | exact Guard.yes rfl rfl | exact Guard.no rfl rfl | exact Guard.cyes rfl rfl | exact Guard.cno rfl rfl)); rfl; rfl); (exact Pev.call rfl (by (repeat (first | exact Args.nil | (apply Args.cons rfl; ((first | exact fun _ => rfl | exact fun h => h | (intro h; simp_all; done))))))) (fun _ w2 hw2 => (hF w2 hw2).mono (fun e w3 h => ⟨h.1, hw2.ext h.2⟩))))
    apply omv; rfl; rfl
    apply oex; rfl; rfl; rfl
    apply oex; rfl; rfl; rfl
    apply oas; rfl; rfl
    apply oas; rfl; rfl
    apply OL.nil
    with_reducible apply At.next
    apply W.seq
    apply W.seq
    apply W.reg
    apply omv; rfl; rfl
    apply OL.op; exact Guard.none; rfl; rfl; apply Pev.len_slice; rfl; exact yes; rfl
    apply omv; rfl; rfl
    apply OL.nil
    with_reducible apply At.next
    apply W.block
    refine W.loop (G := Unit) (fun _ => True) (fun _ => 0)
      (fun _ => [(59, true, .int .i64 0), (58, true, .int .i64 0), (57, true, .slice none 0 0), (11, true, .bool (hasB kn nm)), (6, true, .slice none 0 0)])
      (fun _ => Cls (row B' P1 q1 n c1 3 1 (nts σ.up) :: row B' P2 q2 n c2 3 1 (ins σ.kind) :: blk bs 64 [.slice qk kn.length ck, .slice qd ds.length cd, .slice qf fi.length cf, .slice q1 n c1, .slice q2 n c2] :: row B' Of qf fi.length cf 3 1 (nts fi) :: H) (s0 :: S)) () trivial (by (repeat (first | exact Sub.nil | apply Sub.cons rfl | (refine Sub.cons_eq rfl (congrArg (Value.int .i64) (by first | omega | (simp only; omega))) ?_)))) (fun w' hw' => hw') ?_
    rintro ⟨⟩ -
    apply W.seq
    apply W.reg
    apply obn; rfl; rfl; rfl; apply Bin.lss
    apply OL.nil
    with_reducible apply At.next
    apply W.seq
    (refine W.cond rfl (fun hlt2 => ?_) (fun hlt2 => ?_)) <;> (try (simp only [Bool.and_eq_true, Bool.or_eq_true, Bool.not_eq_true', Bool.and_eq_false_iff, Bool.or_eq_false_iff, Bool.not_eq_false', decide_eq_true_eq, decide_eq_false_iff_not, Int.not_lt, Int.not_le] at hlt2)) <;> (try (exfalso; first | omega | exact hlt2 trivial | contradiction))
    apply W.exit
    with_reducible apply At.then_exit
    with_reducible apply At.then_exit
    with_reducible apply At.in_exit
    with_reducible apply At.next
    apply W.seq
    apply W.reg
    apply omv; rfl; rfl
    apply omv; rfl; rfl
    apply oas; rfl; rfl
    apply oas; rfl; rfl
    apply OL.nil
    with_reducible apply At.next
    apply W.ret
    ((with_reducible apply At.fin2); rfl; rfl; rfl; intro w' hw')
    rw [← hrest]
    exact ⟨gp0, by cases hasB kn nm <;> rfl, by cases hasB kn nm <;> exact hw'.row_nil Bg _ 1⟩
end Go.Proofs.YtaponemcbnnebaaDoor.ki
