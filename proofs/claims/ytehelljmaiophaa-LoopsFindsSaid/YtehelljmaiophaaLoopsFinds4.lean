/- Texts of the proof of LoopsFinds, part 4: rules of a calculus for walking, plain laws, and walks of the functions that the law reaches. No condition. -/
import Derived.Sort.Grow
import Derived.Test.YtehelljmaiophaaProg
import Derived.Shelf.Lays
import Derived.Shelf.Sort.Plain
import Derived.Shelf.Slices.In.SortNone
import Derived.Shelf.Slices.Reverse
import Derived.Test.YtehelljmaiophaaLoopsFinds3
/- The walks of the reference's SameInts, Fresh and Preds, and of few. Conditions: none. -/
namespace Go.Ss
set_option linter.unusedVariables false
set_option linter.unusedSimpArgs false
open Go.Eng Go.RowKit
set_option linter.unusedVariables false
set_option linter.unusedSimpArgs false
/-- one step of Fresh, as the machine reckons -/
def wmax (a v : Int) : Int := if a < IntKind.i64.wrap (v + 1) then IntKind.i64.wrap (v + 1) else a
def freshB (a : Int) (b : Bk) : Int := (b.ins.map In.to_).foldl wmax (b.params.foldl wmax a)
def freshF (bs : List Bk) : Int := bs.foldl freshB 0
/-- the blocks from which an edge leads to k, once for each edge -/
def predsF : List (List Int) → Nat → Int → List Int
  | [], _, _ => []
  | l :: r, n, k => List.replicate (l.count k) (n : Int) ++ predsF r (n + 1) k
theorem predsF_snoc : ∀ (G : List (List Int)) (l : List Int) (n : Nat) (k : Int), predsF (G ++ [l]) n k = predsF G n k ++ List.replicate (l.count k) ((n + G.length : Nat) : Int)
  | [], l, n, k => by simp [predsF]
  | m :: G, l, n, k => by
    rw [List.cons_append, predsF, predsF, predsF_snoc G l (n + 1) k, List.append_assoc, List.length_cons]
    congr 3
    omega
theorem predsF_len {M : Nat} : ∀ {G : List (List Int)} {n : Nat} {k : Int}, (∀ l ∈ G, l.length ≤ M) → (predsF G n k).length ≤ G.length * M
  | [], _, _, _ => by simp [predsF]
  | l :: G, n, k, h => by
    have h1 := predsF_len (G := G) (n := n + 1) (k := k) fun m hm => h m (.tail _ hm)
    have h2 := h l (.head _)
    have h3 : l.count k ≤ l.length := List.count_le_length
    rw [predsF, List.length_append, List.length_replicate, List.length_cons, Nat.succ_mul]
    omega
end Go.Ss
namespace Go.Proofs.Ytehelljmaiophaa.ss
set_option linter.unusedVariables false
set_option linter.unusedSimpArgs false
set_option maxRecDepth 100000
open Go.Eng Go.RowKit Go.Ss
set_option linter.unusedVariables false
set_option linter.unusedSimpArgs false
theorem SameInts_calls (q q2 : Option Addr) (cap cap2 : Nat) (l m : List Int) (w : World) (hl : l.length ≤ 9223372036854775807) (hm : m.length ≤ 9223372036854775807) (h : IntsO w (low w) l q) (h2 : IntsO w (low w) m q2) :
    Calls Try.prog 20 #[.slice q l.length cap, .slice q2 m.length cap2] w fun e w' => e = .returned (.bool (decide (l = m))) ∧ Ext w w' := by
  refine enter Try.func20 rfl Try.ntmps20 rfl (Cls.start w) ?_
  (simp only [argEnv, Nat.zero_add, Nat.reduceAdd])
  apply W.sr
  apply oas; rfl; rfl
  apply OL.nx
  apply W.seq
  apply W.sr
  apply omv; rfl; rfl
  apply oop; rfl; apply Pev.len_slice; rfl; exact yes; rfl
  apply omv; rfl; rfl
  apply oop; rfl; apply Pev.len_slice; rfl; exact yes; rfl
  apply obn; rfl; rfl; rfl; apply Bin.neq
  apply OL.nx
  (refine W.cnd (fun hne => ?_) (fun hne => ?_)) <;> (try (exfalso; first | omega | exact hne trivial | contradiction))
  · have hd : decide (l = m) = false := decide_eq_false (fun e => by subst e; omega)
    rw [hd]
    apply W.sr
    apply oas; rfl; rfl
    apply OL.nx
    refine W.rt ?_
    ((with_reducible apply At.fin1); rfl; rfl; intro w' hw')
    exact ⟨rfl, by (exact hw'.fr)⟩
  have hlm : l.length = m.length := by omega
  apply W.sk
  apply W.seq
  apply W.sr
  apply omv; rfl; rfl
  apply oop; rfl; apply Pev.len_slice; rfl; exact yes; rfl
  apply omv; rfl; rfl
  apply OL.nx
  apply W.block
  refine W.loop (G := Nat) (fun i => i ≤ l.length ∧ l.take i = m.take i) (fun i => l.length - i)
    (fun i => [(1, true, .slice q2 m.length cap2), (12, true, .slice q l.length cap), (13, true, .int .i64 (l.length : Int)), (14, true, .int .i64 (i : Int))])
    (fun i => Cls [] [w]) 0 ⟨by omega, rfl⟩ (by exact Sub.au) (fun w' hw' => hw') ?_
  rintro i ⟨hi, hi0⟩
  apply W.sr
  apply obn; rfl; rfl; rfl; apply Bin.lss
  apply OL.nx
  apply W.seq
  (refine W.cnd (fun hlt => ?_) (fun hlt => ?_)) <;> (try (exfalso; first | omega | exact hlt trivial | contradiction))
  · have hil : i < l.length := by omega
    obtain ⟨a, x, hqa, hab, hx, hcx⟩ := h.get hil
    have hab : a.block < w.heap.size := hab
    obtain ⟨a2, x2, hqa2, hab2, hx2, hcx2⟩ := h2.get (show i < m.length by omega)
    have hab2 : a2.block < w.heap.size := hab2
    rw [hqa, hqa2]
    apply W.sk
    apply W.sb
    apply W.sr
    apply omv; rfl; rfl
    apply oop; rfl; apply Pev.idx; rfl; exact yes; rfl; exact yes; rfl; rfl; intro hcond; omega
    apply oop; rfl; apply Pev.load_kept; rfl; exact yes; exact .head _; rfl; intro hcond; assumption; intro hcond; (rw [add_block]; assumption); intro hcond; exact NotOwned.au
    apply oas; rfl; rfl
    apply oas; rfl; rfl
    apply OL.nsr
    apply omv; rfl; rfl
    apply omv; rfl; rfl
    apply oop; rfl; apply Pev.idx; rfl; exact yes; rfl; exact yes; rfl; rfl; intro hcond; omega
    apply oop; rfl; apply Pev.load_kept; rfl; exact yes; exact .head _; rfl; intro hcond; assumption; intro hcond; (rw [add_block]; assumption); intro hcond; exact NotOwned.au
    apply omv; rfl; rfl
    apply obn; rfl; rfl; rfl; apply Bin.neq
    apply OL.nx
    (refine W.cnd (fun hxx => ?_) (fun hxx => ?_)) <;> (try (exfalso; first | omega | exact hxx trivial | contradiction))
    · have hd : decide (l = m) = false := decide_eq_false (fun e => by subst e; rw [hx] at hx2; exact hxx (Option.some.inj hx2).symm)
      rw [hd]
      apply W.sr
      apply oas; rfl; rfl
      apply OL.nx
      refine W.rt ?_
      ((with_reducible apply At.fin1); rfl; rfl; intro w' hw')
      exact ⟨rfl, by (exact hw'.fr)⟩
    · have hxx' : x2 = x := by simpa using hxx
      apply W.skip
      with_reducible apply At.in_normal
      with_reducible apply At.next
      apply W.reg
      apply obn; rfl; rfl; rfl; apply Bin.add_in; omega
      apply omv; rfl; rfl
      apply OL.nil
      exact At.again (i + 1) ⟨by omega, by rw [List.take_add_one, List.take_add_one, hx, hx2, hi0, hxx']⟩ (by omega) (by exact Sub.au) (fun w' hw' => hw')
  · obtain rfl : i = l.length := by omega
    have hd : decide (l = m) = true := decide_eq_true (by rw [List.take_length, hlm, List.take_length] at hi0; exact hi0)
    rw [hd]
    refine W.xt ?_
    with_reducible apply At.next
    apply W.sr
    apply oas; rfl; rfl
    apply OL.nx
    apply W.ret
    ((with_reducible apply At.fin1); rfl; rfl; intro w' hw')
    exact ⟨rfl, by (exact hw'.fr)⟩
theorem Fresh_calls (es : List (Bk × BkY)) (q : Option Addr) (cap : Nat) (nm : Int) (w : World) (he : Arr bkR w (low w) es q) (hlen : es.length ≤ 140737488355328) :
    Calls Try.prog 13 [.agg #[.int .i64 nm, .slice q es.length cap]].toArray w fun e w' => e = .returned (.int .i64 (freshF (es.map Prod.fst))) ∧ Ext w w' := by
  obtain ⟨bs, hbs⟩ : ∃ bs, es.map Prod.fst = bs := ⟨_, rfl⟩
  have hbl : bs.length = es.length := by rw [← hbs, List.length_map]
  rw [hbs]
  refine enter Try.func13 rfl Try.ntmps13 rfl (Cls.start w) ?_
  (simp only [argEnv, Nat.zero_add, Nat.reduceAdd])
  apply W.sr
  apply OL.box; rfl; rfl; exact CellsL.agg; (intro bk hbk; simp only [AllLe, and_true] at hbk)
  apply oas; rfl; rfl
  apply OL.nsr
  apply oas; rfl; rfl
  apply OL.nx
  apply W.seq
  apply W.sr
  apply ofa; rfl; rfl; rfl
  apply old; rfl; rfl; exact .head _; rfl; rfl
  apply oop; rfl; apply Pev.len_slice; rfl; exact yes; rfl
  apply omv; rfl; rfl
  apply OL.nx
  apply W.block
  refine W.loop (G := Nat) (fun k => k ≤ es.length) (fun k => es.length - k)
    (fun k => [(3, true, .int .i64 (freshF (bs.take k))), (11, true, .slice q es.length cap), (12, true, .int .i64 (es.length : Int)), (13, true, .int .i64 (k : Int))])
    (fun _ => Cls [] [w]) 0 (by omega) (by exact Sub.au) (fun w' hw' => hw'.thin (by exact Thin.au)) ?_
  rintro k hk
  apply W.sr
  apply obn; rfl; rfl; rfl; apply Bin.lss
  apply OL.nx
  apply W.seq
  (refine W.cnd (fun hlt => ?_) (fun hlt => ?_)) <;> (try (exfalso; first | omega | exact hlt trivial | contradiction))
  · have hkl : k < es.length := by omega
    obtain ⟨a, p, hqa, hab, hp, hcell, hok⟩ := he.get hkl
    have hab : a.block < w.heap.size := hab
    have hcell : CellsAt w (a.add (k * 7)) [.slice p.2.p.1 p.1.params.length p.2.p.2, .slice p.2.i.1 p.1.ins.length p.2.i.2, .int .i64 p.1.term.kind, .int .i64 p.1.term.arg, .int .i64 p.1.term.n, .slice p.2.t.c.1 p.1.term.cases.length p.2.t.c.2, .slice p.2.t.t.1 p.1.term.to_.length p.2.t.t.2] := hcell
    have hbsk : bs[k]? = some p.1 := by rw [← hbs, List.getElem?_map, hp]; rfl
    have hpl := hok.pl
    have hil := hok.il
    obtain ⟨pi, hpi, hiarr⟩ := hok.i
    have hpil : p.1.ins.length = pi.length := by rw [← hpi, List.length_map]
    have hnx : freshF (bs.take (k + 1)) = freshB (freshF (bs.take k)) p.1 := by
      unfold freshF
      rw [List.take_add_one, hbsk, Option.toList_some, List.foldl_append]
      rfl
    unfold freshB at hnx
    generalize freshF (bs.take k) = z0 at *
    rw [hqa]
    apply W.sk
    apply W.sb
    apply W.sr
    apply oop; rfl; apply Pev.idx; rfl; exact yes; rfl; exact yes; rfl; rfl; intro hcond; omega
    apply oop; rfl; apply Pev.load_keptA; rfl; exact yes; exact .head _; rfl; intro hcond; assumption; rfl; intro hcond; (rw [add_block]; assumption); intro hcond; exact NotOwned.au
    apply OL.alloc; rfl; rfl; exact CellsL.agg; (intro bk hbk; simp only [AllLe, and_true] at hbk)
    apply OL.storeB; rfl; rfl; exact CellsL.agg; rfl; rfl; rfl; exact Swap.au; exact Put.au
    apply OL.nx
    apply W.seq
    apply W.sr
    apply ofa; rfl; rfl; rfl
    apply old; rfl; rfl; exact .head _; rfl; rfl
    apply oop; rfl; apply Pev.len_slice; rfl; exact yes; rfl
    apply omv; rfl; rfl
    apply OL.nx
    apply W.block
    revert bk
    intro b5 hb5
    have hb51 : w.heap.size ≤ b5 := by first | exact hb5 | exact hb5.1
    refine W.loop (G := Nat) (fun j => j ≤ p.1.params.length) (fun j => p.1.params.length - j)
      (fun j => [(3, true, .int .i64 ((p.1.params.take j).foldl wmax z0)), (5, true, .pointer (some ⟨b5, 0, none⟩)), (11, true, .slice (some a) es.length cap), (12, true, .int .i64 (es.length : Int)), (13, true, .int .i64 (k : Int)), (18, true, .slice p.2.p.1 p.1.params.length p.2.p.2), (19, true, .int .i64 (p.1.params.length : Int)), (20, true, .int .i64 (j : Int))])
      (fun _ => Cls [blk b5 41 [.slice p.2.p.1 p.1.params.length p.2.p.2, .slice p.2.i.1 p.1.ins.length p.2.i.2, .int .i64 p.1.term.kind, .int .i64 p.1.term.arg, .int .i64 p.1.term.n, .slice p.2.t.c.1 p.1.term.cases.length p.2.t.c.2, .slice p.2.t.t.1 p.1.term.to_.length p.2.t.t.2]] [w]) 0 (by omega) (by exact Sub.au) (fun w' hw' => hw') ?_
    rintro j hj
    apply W.sr
    apply obn; rfl; rfl; rfl; apply Bin.lss
    apply OL.nx
    apply W.seq
    (refine W.cnd (fun hlt1 => ?_) (fun hlt1 => ?_)) <;> (try (exfalso; first | omega | exact hlt1 trivial | contradiction))
    · obtain ⟨av, v, hqv, habv, hv, hcv⟩ := hok.p.get (show j < p.1.params.length by omega)
      have habv : av.block < w.heap.size := habv
      have hn1 : (p.1.params.take (j + 1)).foldl wmax z0 = wmax ((p.1.params.take j).foldl wmax z0) v := by
        rw [List.take_add_one, hv, Option.toList_some, List.foldl_append]
        rfl
      rw [hqv]
      apply W.sk
      apply W.sb
      apply W.sr
      apply oop; rfl; apply Pev.idx; rfl; exact yes; rfl; exact yes; rfl; rfl; intro hcond; omega
      apply oop; rfl; apply Pev.load_kept; rfl; exact yes; exact .head _; rfl; intro hcond; assumption; intro hcond; (rw [add_block]; assumption); intro hcond; exact NotOwned.au
      apply oas; rfl; rfl
      apply OL.nx
      apply W.reg
      apply omv; rfl; rfl
      apply omv; rfl; rfl
      apply obn; rfl; rfl; rfl; apply Bin.add
      apply oop; rfl; apply Pev.max2; rfl; exact yes; rfl; exact yes
      apply oas; rfl; rfl
      apply OL.nil
      with_reducible apply At.in_normal
      with_reducible apply At.next
      apply W.reg
      apply obn; rfl; rfl; rfl; apply Bin.add_in; omega
      apply omv; rfl; rfl
      apply OL.nil
      exact At.again (j + 1) (by omega) (by omega) (by rw [hn1]; unfold wmax; exact Sub.au) (fun w' hw' => hw')
    obtain rfl : j = p.1.params.length := by omega
    rw [List.take_length]
    generalize p.1.params.foldl wmax z0 = z1 at *
    refine W.xt ?_
    with_reducible apply At.next
    apply W.sr
    apply ofa; rfl; rfl; rfl
    apply old; rfl; rfl; exact .head _; rfl; rfl
    apply oop; rfl; apply Pev.len_slice; rfl; exact yes; rfl
    apply omv; rfl; rfl
    apply OL.nx
    apply W.block
    refine W.loop (G := Nat) (fun j => j ≤ pi.length) (fun j => pi.length - j)
      (fun j => [(3, true, .int .i64 (((p.1.ins.map In.to_).take j).foldl wmax z1)), (11, true, .slice (some a) es.length cap), (12, true, .int .i64 (es.length : Int)), (13, true, .int .i64 (k : Int)), (30, true, .slice p.2.i.1 pi.length p.2.i.2), (31, true, .int .i64 (pi.length : Int)), (32, true, .int .i64 (j : Int))])
      (fun _ => Cls [] [w]) 0 (by omega) (by rw [← hpil]; exact Sub.au) (fun w' hw' => hw'.thin (.any (fun k hk => by rw [show k = b5 from hk]; exact ⟨hb51, trivial⟩) Thin.same)) ?_
    rintro j hj
    apply W.sr
    apply obn; rfl; rfl; rfl; apply Bin.lss
    apply OL.nx
    apply W.seq
    (refine W.cnd (fun hlt2 => ?_) (fun hlt2 => ?_)) <;> (try (exfalso; first | omega | exact hlt2 trivial | contradiction))
    · obtain ⟨ai, u, hqi, haib, hu, hcu, hoku⟩ := hiarr.get (show j < pi.length by omega)
      have haib : ai.block < w.heap.size := haib
      have hcu : CellsAt w (ai.add (j * 4)) [.int .i64 u.1.to_, .int .i64 u.1.op, .int .i64 u.1.n, .slice u.2.1 u.1.args.length u.2.2] := hcu
      have hui : (p.1.ins.map In.to_)[j]? = some u.1.to_ := by rw [← hpi]; simp [hu]
      have hn1 : ((p.1.ins.map In.to_).take (j + 1)).foldl wmax z1 = wmax (((p.1.ins.map In.to_).take j).foldl wmax z1) u.1.to_ := by
        rw [List.take_add_one, hui, Option.toList_some, List.foldl_append]
        rfl
      rw [hqi]
      apply W.sk
      apply W.sb
      apply W.sr
      apply oop; rfl; apply Pev.idx; rfl; exact yes; rfl; exact yes; rfl; rfl; intro hcond; omega
      apply oop; rfl; apply Pev.load_keptA; rfl; exact yes; exact .head _; rfl; intro hcond; assumption; rfl; intro hcond; (rw [add_block]; assumption); intro hcond; exact NotOwned.au
      apply OL.alloc; rfl; rfl; exact CellsL.agg; (intro bk hbk; simp only [AllLe, and_true] at hbk)
      apply OL.storeB; rfl; rfl; exact CellsL.agg; rfl; rfl; rfl; exact Swap.au; exact Put.au
      apply OL.nx
      apply W.reg
      apply omv; rfl; rfl
      apply ofa; rfl; rfl; rfl
      apply old; rfl; rfl; exact .head _; rfl; rfl
      apply obn; rfl; rfl; rfl; apply Bin.add
      apply oop; rfl; apply Pev.max2; rfl; exact yes; rfl; exact yes
      apply oas; rfl; rfl
      apply OL.nil
      with_reducible apply At.in_normal
      with_reducible apply At.next
      apply W.reg
      apply obn; rfl; rfl; rfl; apply Bin.add_in; omega
      apply omv; rfl; rfl
      apply OL.nil
      exact At.again (j + 1) (by omega) (by omega) (by rw [hn1]; unfold wmax; exact Sub.au) (fun w' hw' => hw'.thin (by exact Thin.au))
    obtain rfl : j = pi.length := by omega
    rw [show (p.1.ins.map In.to_).take pi.length = p.1.ins.map In.to_ by rw [List.take_of_length_le]; simp [hpil]]
    rw [← hnx]
    refine W.xt ?_
    with_reducible apply At.in_normal
    with_reducible apply At.next
    apply W.reg
    apply obn; rfl; rfl; rfl; apply Bin.add_in; omega
    apply omv; rfl; rfl
    apply OL.nil
    exact At.again (k + 1) (by omega) (by omega) (by exact Sub.au) (fun w' hw' => hw')
  obtain rfl : k = es.length := by omega
  rw [← hbl, List.take_length]
  refine W.xt ?_
  with_reducible apply At.next
  apply W.sr
  apply omv; rfl; rfl
  apply oas; rfl; rfl
  apply OL.nx
  apply W.ret
  ((with_reducible apply At.fin1); rfl; rfl; intro w' hw')
  exact ⟨rfl, by (exact hw'.fr)⟩
theorem few_calls (es : List (Bk × BkY)) (q : Option Addr) (cap : Nat) (nm : Int) (w : World) (he : Arr bkR w (low w) es q) (hlen : es.length ≤ 140737488355328) :
    Calls Try.prog 12 [.agg #[.int .i64 nm, .slice q es.length cap]].toArray w fun e w' => e = .returned (.bool (decide (es.length ≤ 12) && decide (freshF (es.map Prod.fst) ≤ 200))) ∧ Ext w w' := by
  refine enter Try.func12 rfl Try.ntmps12 rfl (Cls.start w) ?_
  (simp only [argEnv, Nat.zero_add, Nat.reduceAdd])
  apply W.sr
  apply OL.box; rfl; rfl; exact CellsL.agg; (intro bk hbk; simp only [AllLe, and_true] at hbk)
  apply oas; rfl; rfl
  apply OL.nsr
  apply ofa; rfl; rfl; rfl
  apply old; rfl; rfl; exact .head _; rfl; rfl
  apply oop; rfl; apply Pev.len_slice; rfl; exact yes; rfl
  apply obn; rfl; rfl; rfl; apply Bin.leq
  apply omv; rfl; rfl
  apply oy; rfl; rfl; rfl; apply Pev.load_blkA; rfl; exact yes; exact .head _; rfl; exact Take.au
  (((first | (with_reducible apply OL.op) | (with_reducible apply QL.op)); (exact Guard.au); rfl; rfl); (exact Pev.call (v := .int .i64 (freshF (es.map Prod.fst))) rfl (by exact Args.au) (fun _ w2 hw2 => (Fresh_calls es q cap nm w2 (he.at hw2 (by exact mau) (fun k hk => by exact NotOwned.au)) hlen).mono (fun e w3 h => ⟨h.1, hw2.ext h.2⟩))))
  apply oy; rfl; rfl; rfl; apply Pev.bin; rfl; exact fun h => h; rfl; exact yes; intro hcond; apply Bin.leq
  apply oop; rfl; apply Pev.pick_and; rfl; exact yes; rfl; exact fun h => h
  apply oas; rfl; rfl
  apply OL.nx
  apply W.ret
  ((with_reducible apply At.fin1); rfl; rfl; intro w' hw')
  refine ⟨?_, by (exact hw'.fr)⟩
  have e1 : decide ((es.length : Int) ≤ 12) = decide (es.length ≤ 12) := decide_eq_decide.2 (by omega)
  rw [e1]
end Go.Proofs.Ytehelljmaiophaa.ss

/- Rows that grow side by side: an item for a table of them, one taken out and put back. General. No condition. -/
namespace Go.Eng
set_option linter.unusedVariables false
set_option linter.unusedSimpArgs false
open Go.RowKit
set_option linter.unusedVariables false
set_option linter.unusedSimpArgs false
structure Rw where
  O : Nat → Prop
  q : Option Addr
  m : Nat
  cap : Nat
  xs : List Value
/-- the row as an item -/
def Rw.it (B : Nat) (e : TypeId) (sz : Nat) (r : Rw) : Item := row B r.O r.q r.m r.cap e sz r.xs
/-- the rows of a table that are in -/
def rws (B : Nat) (e : TypeId) (sz : Nat) (f : Nat → Option Rw) : Item :=
  ⟨fun k => ∃ i r, f i = some r ∧ (r.it B e sz).own k,
   fun w => (∀ i r, f i = some r → (r.it B e sz).holds w) ∧ ∀ i j r s, i ≠ j → f i = some r → f j = some s → ∀ k, (r.it B e sz).own k → ¬ (s.it B e sz).own k,
   fun w w' hk h => ⟨fun i r hr => (r.it B e sz).stab w w' (fun k ho => hk k ⟨i, r, hr, ho⟩) (h.1 i r hr), h.2⟩⟩
def fout (L : List Rw) (i : Nat) : Nat → Option Rw := fun j => if j = i then none else L[j]?
theorem NotOwned.rws {H : List Item} {B sz k : Nat} {e : TypeId} {f : Nat → Option Rw} (h : k < B) (r : NotOwned H k) : NotOwned (Eng.rws B e sz f :: H) k :=
  NotOwned.any (fun ho => by
    obtain ⟨i, r, _, h2⟩ := ho
    exact absurd h2.1 (by omega)) r
theorem Cls.rws_new {H : List Item} {S : List World} {w : World} (h : Cls H S w) (B : Nat) (e : TypeId) (sz n : Nat) : Cls (rws B e sz (fun j => (List.replicate n (⟨fun _ => False, none, 0, 0, []⟩ : Rw))[j]?) :: H) S w := by
  have key : ∀ (i : Nat) (r : Rw), (List.replicate n (⟨fun _ => False, none, 0, 0, []⟩ : Rw))[i]? = some r → r = ⟨fun _ => False, none, 0, 0, []⟩ := fun i r hr => (List.mem_replicate.1 (List.mem_of_getElem? hr)).2
  refine h.add (Keep.refl _ w) (rws B e sz (fun j => (List.replicate n (⟨fun _ => False, none, 0, 0, []⟩ : Rw))[j]?)) ⟨fun i r hr => ?_, fun i j r s _ hr hs k ho => ?_⟩ (fun k hk => ?_)
  · obtain rfl := key i r hr
    exact ⟨fun a ha => (by cases ha), World.ownsRow_nil w B e sz⟩
  · obtain rfl := key i r hr
    exact ho.2.elim
  · obtain ⟨i, r, hr, ho⟩ := hk
    obtain rfl := key i r hr
    exact ho.2.elim
theorem Cls.rws_out {H : List Item} {S : List World} {w : World} {B sz i : Nat} {e : TypeId} {L : List Rw} {r : Rw} (h : Cls (rws B e sz (fun j => L[j]?) :: H) S w) (hL : L[i]? = some r) : Cls (row B r.O r.q r.m r.cap e sz r.xs :: rws B e sz (fout L i) :: H) S w := by
  have hh := h.holds _ (.head _)
  have hf : ∀ j s, fout L i j = some s → j ≠ i ∧ L[j]? = some s := fun j s hj => by
    unfold fout at hj
    split at hj
    · cases hj
    · exact ⟨by assumption, hj⟩
  obtain ⟨hd1, hd2⟩ := List.pairwise_cons.1 h.dj
  have hown : ∀ k, owned (row B r.O r.q r.m r.cap e sz r.xs :: rws B e sz (fout L i) :: H) k → owned (rws B e sz (fun j => L[j]?) :: H) k := by
    rintro k ⟨it, hi, hk⟩
    rcases List.mem_cons.1 hi with rfl | hi
    · exact ⟨_, .head _, i, r, hL, hk⟩
    · rcases List.mem_cons.1 hi with rfl | hi
      · obtain ⟨j, s, hs, hk⟩ := hk
        exact ⟨_, .head _, j, s, (hf j s hs).2, hk⟩
      · exact ⟨it, .tail _ hi, hk⟩
  have hown2 : ∀ k, owned (rws B e sz (fun j => L[j]?) :: H) k → owned (row B r.O r.q r.m r.cap e sz r.xs :: rws B e sz (fout L i) :: H) k := by
    rintro k ⟨it, hi, hk⟩
    rcases List.mem_cons.1 hi with rfl | hi
    · obtain ⟨j, s, hs, hk⟩ := hk
      by_cases e1 : j = i
      · subst e1
        obtain rfl : r = s := Option.some.inj (hL.symm.trans hs)
        exact ⟨_, .head _, hk⟩
      · exact ⟨_, .tail _ (.head _), j, s, (if_neg e1).trans hs, hk⟩
    · exact ⟨it, .tail _ (.tail _ hi), hk⟩
  refine ⟨fun it hi => ?_, fun it hi k hk => ?_, ?_, fun s hs => ?_⟩
  · rcases List.mem_cons.1 hi with rfl | hi
    · exact hh.1 i r hL
    · rcases List.mem_cons.1 hi with rfl | hi
      · exact ⟨fun j s hs => hh.1 j s (hf j s hs).2, fun j1 j2 s1 s2 hne h1 h2 => hh.2 j1 j2 s1 s2 hne (hf j1 s1 h1).2 (hf j2 s2 h2).2⟩
      · exact h.holds it (.tail _ hi)
  · obtain ⟨it', hi', hk'⟩ := hown k ⟨it, hi, hk⟩
    exact h.lt it' hi' k hk'
  · refine List.pairwise_cons.2 ⟨fun it hi k hk => ?_, List.pairwise_cons.2 ⟨fun it hi k hk => ?_, hd2⟩⟩
    · rcases List.mem_cons.1 hi with rfl | hi
      · rintro ⟨j, s, hs, hk2⟩
        exact hh.2 i j r s (fun e => (hf j s hs).1 e.symm) hL (hf j s hs).2 k hk hk2
      · exact hd1 it hi k ⟨i, r, hL, hk⟩
    · obtain ⟨j, s, hs, hk2⟩ := hk
      exact hd1 it hi k ⟨j, s, (hf j s hs).2, hk2⟩
  · exact (h.kp s hs).mono (fun k _ ho => hown2 k ho)
theorem Cls.rws_in {H : List Item} {S : List World} {w : World} {B sz i m cap : Nat} {e : TypeId} {L : List Rw} {O : Nat → Prop} {q : Option Addr} {xs : List Value} (h : Cls (row B O q m cap e sz xs :: rws B e sz (fout L i) :: H) S w) (hi : i < L.length) : Cls (rws B e sz (fun j => (L.set i ⟨O, q, m, cap, xs⟩)[j]?) :: H) S w := by
  obtain ⟨hd1, hd2⟩ := List.pairwise_cons.1 h.dj
  obtain ⟨hd3, hd4⟩ := List.pairwise_cons.1 hd2
  have hr := h.holds _ (.head _)
  have hh := h.holds _ (.tail _ (.head _))
  have hf : ∀ j s, (L.set i ⟨O, q, m, cap, xs⟩)[j]? = some s → (j = i ∧ s = ⟨O, q, m, cap, xs⟩) ∨ (j ≠ i ∧ fout L i j = some s) := fun j s hj => by
    have hj : (L.set i ⟨O, q, m, cap, xs⟩)[j]? = some s := hj
    rw [List.getElem?_set] at hj
    split at hj
    · rename_i he
      first | rw [if_pos hi] at hj | skip
      exact .inl ⟨he.symm, (Option.some.inj hj).symm⟩
    · rename_i he
      exact .inr ⟨fun e => he e.symm, (if_neg (fun e => he e.symm)).trans hj⟩
  have hown : ∀ k, owned (rws B e sz (fun j => (L.set i ⟨O, q, m, cap, xs⟩)[j]?) :: H) k → owned (row B O q m cap e sz xs :: rws B e sz (fout L i) :: H) k := by
    rintro k ⟨it, hit, hk⟩
    rcases List.mem_cons.1 hit with rfl | hit
    · obtain ⟨j, s, hs, hk⟩ := hk
      rcases hf j s hs with ⟨_, rfl⟩ | ⟨_, h2⟩
      · exact ⟨_, .head _, hk⟩
      · exact ⟨_, .tail _ (.head _), j, s, h2, hk⟩
    · exact ⟨it, .tail _ (.tail _ hit), hk⟩
  have hown2 : ∀ k, owned (row B O q m cap e sz xs :: rws B e sz (fout L i) :: H) k → owned (rws B e sz (fun j => (L.set i ⟨O, q, m, cap, xs⟩)[j]?) :: H) k := by
    rintro k ⟨it, hit, hk⟩
    rcases List.mem_cons.1 hit with rfl | hit
    · exact ⟨_, .head _, i, ⟨O, q, m, cap, xs⟩, by simp [hi], hk⟩
    · rcases List.mem_cons.1 hit with rfl | hit
      · obtain ⟨j, s, hs, hk⟩ := hk
        unfold fout at hs
        split at hs
        · cases hs
        · rename_i e1
          exact ⟨_, .head _, j, s, by simp only; rw [List.getElem?_set, if_neg (fun e => e1 e.symm)]; exact hs, hk⟩
      · exact ⟨it, .tail _ hit, hk⟩
  refine ⟨fun it hit => ?_, fun it hit k hk => ?_, ?_, fun s hs => ?_⟩
  · rcases List.mem_cons.1 hit with rfl | hit
    · refine ⟨fun j s hs => ?_, fun j1 j2 s1 s2 hne h1 h2 k hk1 hk2 => ?_⟩
      · rcases hf j s hs with ⟨_, rfl⟩ | ⟨_, h2⟩
        · exact hr
        · exact hh.1 j s h2
      · rcases hf j1 s1 h1 with ⟨e1, rfl⟩ | ⟨e1, h3⟩
        · rcases hf j2 s2 h2 with ⟨e2, rfl⟩ | ⟨e2, h4⟩
          · exact hne (e1.trans e2.symm)
          · exact hd1 _ (.head _) k hk1 ⟨j2, s2, h4, hk2⟩
        · rcases hf j2 s2 h2 with ⟨e2, rfl⟩ | ⟨e2, h4⟩
          · exact hd1 _ (.head _) k hk2 ⟨j1, s1, h3, hk1⟩
          · exact hh.2 j1 j2 s1 s2 hne h3 h4 k hk1 hk2
    · exact h.holds it (.tail _ (.tail _ hit))
  · obtain ⟨it', hi', hk'⟩ := hown k ⟨it, hit, hk⟩
    exact h.lt it' hi' k hk'
  · refine List.pairwise_cons.2 ⟨fun it hit k hk => ?_, hd4⟩
    obtain ⟨j, s, hs, hk2⟩ := hk
    rcases hf j s hs with ⟨_, rfl⟩ | ⟨_, h2⟩
    · exact hd1 it (.tail _ hit) k hk2
    · exact hd3 it hit k ⟨j, s, h2, hk2⟩
  · exact (h.kp s hs).mono (fun k _ ho => hown2 k ho)
end Go.Eng

/- The walks of the reference's Preds and of cfg's Preds. Conditions: none. -/
namespace Go.Ss
set_option linter.unusedVariables false
set_option linter.unusedSimpArgs false
open Go.Eng Go.RowKit
theorem func_zero {f : Go.Ss.Fn} (h : funcE f = 0) : 0 < f.blocks.length ∧ f.blocks.length ≤ 128 ∧ shapeE f.blocks = 0 := by
  unfold funcE at h
  split at h
  · cases h
  · split at h
    · cases h
    · split at h
      · cases h
      · split at h
        · rename_i h4; exact absurd h h4
        · rename_i h1 h2 h3 h4
          exact ⟨by omega, by omega, Classical.not_not.1 h4⟩
theorem to_len {bs : List Bk} (h : shapeE bs = 0) {b : Bk} (hb : b ∈ bs) : b.term.to_.length ≤ 257 := by
  obtain ⟨k, hk⟩ := List.getElem?_of_mem hb
  obtain ⟨h1, h2, _⟩ := term_zero (block_zero (shape_block h hk)).2.2
  exact shape_to h1 h2
def slC (r : Rw) : Value := .slice r.q r.m r.cap
theorem slC_set (L : List Rw) (i : Nat) (r : Rw) : (L.map slC).set i (slC r) = (L.set i r).map slC := by rw [List.map_set]
theorem slC_zero (n : Nat) : List.replicate n (Value.slice none 0 0) = (List.replicate n (⟨fun _ => False, none, 0, 0, []⟩ : Rw)).map slC := by rw [List.map_replicate]; rfl
/-- the rows of a table hold these lists -/
def RwsOf (L : List Rw) (n : Nat) (f : Nat → List Int) : Prop := L.length = n ∧ ∀ (k : Nat) r, L[k]? = some r → r.xs = ints (f k) ∧ r.m = (f k).length
theorem RwsOf.set {L : List Rw} {n i : Nat} {f g : Nat → List Int} {r : Rw} (h : RwsOf L n f) (hr : r.xs = ints (g i) ∧ r.m = (g i).length) (hg : ∀ k, k ≠ i → g k = f k) : RwsOf (L.set i r) n g := by
  refine ⟨by rw [List.length_set]; exact h.1, fun k s hs => ?_⟩
  rw [List.getElem?_set] at hs
  split at hs
  · rename_i e
    subst e
    split at hs
    · obtain rfl := Option.some.inj hs
      exact hr
    · cases hs
  · rename_i e
    rw [hg k (fun e2 => e e2.symm)]
    exact h.2 k s hs
theorem RwsOf.congr {L : List Rw} {n : Nat} {f g : Nat → List Int} (h : RwsOf L n f) (hg : ∀ k, k < n → g k = f k) : RwsOf L n g := ⟨h.1, fun k r hr => by
  rw [hg k (by rw [← h.1]; exact (List.getElem?_eq_some_iff.1 hr).1)]
  exact h.2 k r hr⟩
end Go.Ss
namespace Go.Proofs.Ytehelljmaiophaa.ss
set_option linter.unusedVariables false
set_option linter.unusedSimpArgs false
set_option maxRecDepth 100000
open Go.Eng Go.RowKit Go.Ss
set_option linter.unusedVariables false
set_option linter.unusedSimpArgs false
structure XP5 (S : List World) where
  b1 : Nat
  hb1 : AllLe S b1
  g1 : Nat
  c1 : Nat
  O1 : Nat → Prop
  old : Nat → Value
theorem RPreds_calls (es : List (Bk × BkY)) (q : Option Addr) (cap : Nat) (nm k : Int) (w : World) (he : Arr bkR w (low w) es q) (hlen : es.length ≤ 128) (hM : ∀ p ∈ es, p.1.term.to_.length ≤ 257) :
    Calls Try.prog 40 [.agg #[.int .i64 nm, .slice q es.length cap], .int .i64 k].toArray w fun e w' => ∃ (q' : Option Addr) (c : Nat), e = .returned (.slice q' (predsF (graphB (es.map Prod.fst)) 0 k).length c) ∧ Ext w w' ∧ IntsO w' (fresh w w') (predsF (graphB (es.map Prod.fst)) 0 k) q' := by
  obtain ⟨G, hG⟩ : ∃ G, graphB (es.map Prod.fst) = G := ⟨_, rfl⟩
  have hGl : G.length = es.length := by rw [← hG]; simp [graphB]
  have hGM : ∀ l ∈ G, l.length ≤ 257 := fun l hl => by
    rw [← hG] at hl
    obtain ⟨b, hb, rfl⟩ := List.mem_map.1 hl
    obtain ⟨p, hp, rfl⟩ := List.mem_map.1 hb
    rw [List.length_map]
    exact hM p hp
  rw [hG]
  refine enter Try.func40 rfl Try.ntmps40 rfl (Cls.start w) ?_
  (simp only [argEnv, Nat.zero_add, Nat.reduceAdd])
  apply W.sr
  apply OL.box; rfl; rfl; exact CellsL.agg; (intro bk hbk; simp only [AllLe, and_true] at hbk)
  apply oas; rfl; rfl
  apply OL.nsr
  apply oas; rfl; rfl
  apply OL.nx
  apply W.seq
  apply W.sr
  apply ofa; rfl; rfl; rfl
  apply old; rfl; rfl; exact .head _; rfl; rfl
  apply oop; rfl; apply Pev.len_slice; rfl; exact yes; rfl
  apply omv; rfl; rfl
  apply OL.nx
  apply W.block
  revert bk
  intro bF hbF
  refine W.loop (G := Nat × GR) (fun g => g.1 ≤ es.length) (fun g => es.length - g.1)
    (fun g => [(1, true, .int .i64 k), (5, true, .slice g.2.q (predsF (G.take g.1) 0 k).length g.2.c), (11, true, .slice q es.length cap), (12, true, .int .i64 (es.length : Int)), (13, true, .int .i64 (g.1 : Int))])
    (fun g => Cls [row w.heap.size g.2.O g.2.q (predsF (G.take g.1) 0 k).length g.2.c 3 1 (ints (predsF (G.take g.1) 0 k))] [w]) (0, ⟨fun _ => False, none, 0⟩) (by simp) (by exact Sub.au) (fun w' hw' => (hw'.thin (by exact Thin.au)).row_nil w.heap.size 3 1) ?_
  rintro ⟨n, ⟨O0, q0, c0⟩⟩ hn
  simp only at hn ⊢
  apply W.sr
  apply obn; rfl; rfl; rfl; apply Bin.lss
  apply OL.nx
  apply W.seq
  (refine W.cnd (fun hlt => ?_) (fun hlt => ?_)) <;> (try (exfalso; first | omega | exact hlt trivial | contradiction))
  · have hnl : n < es.length := by omega
    obtain ⟨a, p, hqa, hab, hp, hcell, hok⟩ := he.get hnl
    have hab : a.block < w.heap.size := hab
    have hcell : CellsAt w (a.add (n * 7)) [.slice p.2.p.1 p.1.params.length p.2.p.2, .slice p.2.i.1 p.1.ins.length p.2.i.2, .int .i64 p.1.term.kind, .int .i64 p.1.term.arg, .int .i64 p.1.term.n, .slice p.2.t.c.1 p.1.term.cases.length p.2.t.c.2, .slice p.2.t.t.1 p.1.term.to_.length p.2.t.t.2] := hcell
    have htl := hM p (List.mem_of_getElem? hp)
    obtain ⟨ts, hts, harr⟩ := hok.t.t
    have htl2 : p.1.term.to_.length = ts.length := by rw [← hts, List.length_map]
    obtain ⟨l, hl⟩ : ∃ l, p.1.term.to_.map Ed.block = l := ⟨_, rfl⟩
    have hGn : G[n]? = some l := by
      rw [← hG, ← hl]
      simp [graphB, hp]
    have hll : l.length = ts.length := by rw [← hl, List.length_map, htl2]
    have hnx : predsF (G.take (n + 1)) 0 k = predsF (G.take n) 0 k ++ List.replicate (l.count k) (n : Int) := by
      rw [List.take_add_one, hGn, Option.toList_some, predsF_snoc, List.length_take, Nat.min_eq_left (by omega), Nat.zero_add]
    have hbd : (predsF (G.take n) 0 k).length ≤ 128 * 257 := by
      have h1 := predsF_len (M := 257) (G := G.take n) (n := 0) (k := k) (fun m hm => hGM m (List.mem_of_mem_take hm))
      rw [List.length_take] at h1
      have : min n G.length * 257 ≤ 128 * 257 := Nat.mul_le_mul_right _ (by omega)
      omega
    generalize predsF (G.take n) 0 k = pre at *
    rw [hqa]
    apply W.sk
    apply W.sb
    apply W.sr
    apply omv; rfl; rfl
    apply oop; rfl; apply Pev.idx; rfl; exact yes; rfl; exact yes; rfl; rfl; intro hcond; omega
    apply oop; rfl; apply Pev.load_keptA; rfl; exact yes; exact .head _; rfl; intro hcond; assumption; rfl; intro hcond; (rw [add_block]; assumption); intro hcond; exact NotOwned.au
    apply OL.alloc; rfl; rfl; exact CellsL.agg; (intro bk hbk; simp only [AllLe, and_true] at hbk)
    apply oas; rfl; rfl
    apply OL.storeB; rfl; rfl; exact CellsL.agg; rfl; rfl; rfl; exact Swap.au; exact Put.au
    apply OL.nsr
    apply ofa; rfl; rfl; rfl
    apply ofa; rfl; rfl; rfl
    apply old; rfl; rfl; exact .head _; rfl; rfl
    apply oop; rfl; apply Pev.len_slice; rfl; exact yes; rfl
    apply omv; rfl; rfl
    apply OL.nx
    apply W.block
    refine W.loop (G := Nat × GR) (fun g => g.1 ≤ ts.length) (fun g => ts.length - g.1)
      (fun g => [(1, true, .int .i64 k), (5, true, .slice g.2.q (pre ++ List.replicate ((l.take g.1).count k) (n : Int)).length g.2.c), (6, true, .int .i64 (n : Int)), (11, true, .slice (some a) es.length cap), (12, true, .int .i64 (es.length : Int)), (13, true, .int .i64 (n : Int)), (20, true, .slice p.2.t.t.1 ts.length p.2.t.t.2), (21, true, .int .i64 (ts.length : Int)), (22, true, .int .i64 (g.1 : Int))])
      (fun g => Cls [row w.heap.size g.2.O g.2.q (pre ++ List.replicate ((l.take g.1).count k) (n : Int)).length g.2.c 3 1 (ints (pre ++ List.replicate ((l.take g.1).count k) (n : Int)))] [w]) (0, ⟨O0, q0, c0⟩) (by simp) (by rw [htl2]; simp only [List.take_zero, List.count_nil, List.replicate_zero, List.append_nil]; exact Sub.au) (fun w' hw' => by simp only [List.take_zero, List.count_nil, List.replicate_zero, List.append_nil]; exact hw'.thin (by exact Thin.au)) ?_
    rintro ⟨j, ⟨Op, qp, cp⟩⟩ hj
    simp only at hj ⊢
    apply W.sr
    apply obn; rfl; rfl; rfl; apply Bin.lss
    apply OL.nx
    apply W.seq
    (refine W.cnd (fun hlt2 => ?_) (fun hlt2 => ?_)) <;> (try (exfalso; first | omega | exact hlt2 trivial | contradiction))
    · have hjl : j < ts.length := by omega
      obtain ⟨ae, u, hqt, hatb, hu, hcu, hoku⟩ := harr.get hjl
      have hatb : ae.block < w.heap.size := hatb
      have hcu : CellsAt w (ae.add (j * 2)) [.int .i64 u.1.block, .slice u.2.1 u.1.args.length u.2.2] := hcu
      have hlj : l[j]? = some u.1.block := by rw [← hl, ← hts]; simp [hu]
      have hcn : (l.take (j + 1)).count k = (l.take j).count k + if u.1.block = k then 1 else 0 := by
        rw [List.take_add_one, hlj, Option.toList_some, List.count_append, List.count_singleton]
        simp only [beq_iff_eq]
      have hcb : (l.take j).count k ≤ 257 := by
        have h1 : (l.take j).count k ≤ (l.take j).length := List.count_le_length
        rw [List.length_take] at h1
        omega
      have hxl : (pre ++ List.replicate ((l.take j).count k) (n : Int)).length ≤ 1000000 := by
        rw [List.length_append, List.length_replicate]
        omega
      rw [hqt]
      apply W.sk
      apply W.sb
      apply W.sr
      apply oop; rfl; apply Pev.idx; rfl; exact yes; rfl; exact yes; rfl; rfl; intro hcond; omega
      apply oop; rfl; apply Pev.load_keptA; rfl; exact yes; exact .head _; rfl; intro hcond; assumption; rfl; intro hcond; (rw [add_block]; assumption); intro hcond; exact NotOwned.au
      apply OL.alloc; rfl; rfl; exact CellsL.agg; (intro bk hbk; simp only [AllLe, and_true] at hbk)
      apply OL.storeB; rfl; rfl; exact CellsL.agg; rfl; rfl; rfl; exact Swap.au; exact Put.au
      apply OL.nsr
      apply ofa; rfl; rfl; rfl
      apply old; rfl; rfl; exact .head _; rfl; rfl
      apply omv; rfl; rfl
      apply obn; rfl; rfl; rfl; apply Bin.eql
      apply OL.nx
      (refine W.cnd (fun hek => ?_) (fun hek => ?_)) <;> (try (exfalso; first | omega | exact hek trivial | contradiction))
      · have hs2 : pre ++ List.replicate ((l.take (j + 1)).count k) (n : Int) = (pre ++ List.replicate ((l.take j).count k) (n : Int)) ++ [(n : Int)] := by
          rw [hcn, if_pos hek, List.replicate_succ', List.append_assoc]
        generalize pre ++ List.replicate ((l.take j).count k) (n : Int) = xs at *
        apply W.reg
        apply omv; rfl; rfl
        apply omv; rfl; rfl
        apply OL.buildSlice; rfl; rfl; rfl; exact Elems.au; rfl; rfl; (intro bk hbk; simp only [AllLe, and_true] at hbk)
        apply OL.append; rfl; rfl; rfl; rfl; exact Hole.au; exact .head _; exact Take.au; rfl; rfl; exact ⟨_, .head _, Nat.le_refl _⟩; omega; intro O1 g1 cap1
        apply oas; rfl; rfl
        apply OL.nil
        with_reducible apply At.in_normal
        with_reducible apply At.next
        apply W.reg
        apply obn; rfl; rfl; rfl; apply Bin.add_in; omega
        apply omv; rfl; rfl
        apply OL.nil
        refine At.again (j + 1, ⟨O1, some ⟨g1, 0, none⟩, cap1⟩) (by simp only; omega) (by simp only; omega) (by simp only [hs2, List.length_append, List.length_cons, List.length_nil]; exact Sub.au) (fun w' hw' => ?_)
        simp only [hs2, ints_append, List.length_append, List.length_cons, List.length_nil]
        exact hw'.thin (by exact Thin.au)
      · have hs2 : (l.take (j + 1)).count k = (l.take j).count k := by
          rw [hcn, if_neg hek, Nat.add_zero]
        apply W.skip
        with_reducible apply At.in_normal
        with_reducible apply At.next
        apply W.reg
        apply obn; rfl; rfl; rfl; apply Bin.add_in; omega
        apply omv; rfl; rfl
        apply OL.nil
        exact At.again (j + 1, ⟨Op, qp, cp⟩) (by simp only; omega) (by simp only; omega) (by simp only [hs2]; exact Sub.au) (fun w' hw' => by simp only [hs2]; exact hw'.thin (by exact Thin.au))
    · obtain rfl : j = ts.length := by omega
      have ht : l.take ts.length = l := by rw [← hll, List.take_length]
      rw [ht, ← hnx]
      refine W.xt ?_
      with_reducible apply At.in_normal
      with_reducible apply At.next
      apply W.reg
      apply obn; rfl; rfl; rfl; apply Bin.add_in; omega
      apply omv; rfl; rfl
      apply OL.nil
      exact At.again (n + 1, ⟨Op, qp, cp⟩) (by simp only; omega) (by simp only; omega) (by exact Sub.au) (fun w' hw' => hw')
  · obtain rfl : n = es.length := by omega
    rw [← hGl, List.take_length]
    refine W.xt ?_
    with_reducible apply At.next
    apply W.sr
    apply omv; rfl; rfl
    apply oas; rfl; rfl
    apply OL.nx
    apply W.ret
    ((with_reducible apply At.fin1); rfl; rfl; intro w' hw')
    exact ⟨q0, c0, rfl, by (exact hw'.fr), rowInts hw' (.head _) (Nat.le_refl _)⟩
theorem CPreds_calls (fn : Go.Ss.Fn) (y : FnY) (w : World) (hfn : FnOk w (low w) fn y) :
    Calls Try.prog 36 [.agg (fnC fn y).toArray].toArray w fun e w' => Ext w w' ∧ ((funcE fn ≠ 0 ∧ e = .returned (.tuple #[.slice none 0 0, .int .i64 (funcE fn)])) ∨ (funcE fn = 0 ∧ ∃ bO : Nat, e = .returned (.tuple #[.slice (some ⟨bO, 0, none⟩) fn.blocks.length fn.blocks.length, .int .i64 0]) ∧ bO < w'.heap.size ∧ ∀ k : Nat, k < fn.blocks.length → ∃ (q : Option Addr) (c : Nat), w'.cell? ⟨bO, k, none⟩ = some (.slice q (predsF (graphB fn.blocks) 0 (k : Int)).length c) ∧ IntsO w' (low w') (predsF (graphB fn.blocks) 0 (k : Int)) q)) := by
  have hfn0 := hfn
  obtain ⟨es, hes, he⟩ := hfn.b
  obtain ⟨nm, bs⟩ := fn
  obtain ⟨q, cap⟩ := y
  have hbl := hfn.bl
  simp only at hes he hbl ⊢
  have hbl2 : bs.length = es.length := by rw [← hes, List.length_map]
  refine enter Try.func36 rfl Try.ntmps36 rfl (Cls.start w) ?_
  (simp only [argEnv, Nat.zero_add, Nat.reduceAdd])
  simp only [fnC]
  rw [hbl2]
  apply W.sr
  apply OL.box; rfl; rfl; exact CellsL.agg; (intro bk hbk; simp only [AllLe, and_true] at hbk)
  apply oas; rfl; rfl
  apply oas; rfl; rfl
  apply OL.nx
  apply W.seq
  apply W.sr
  apply oop; rfl; apply Pev.load_blkA; rfl; exact yes; exact .head _; rfl; exact Take.au
  revert bk
  intro bF hbF
  have hC : ∀ w2, Cls [blk bF 24 [.int .i64 nm, .slice q es.length cap]] [w] w2 → Calls Try.prog 30 [.agg #[.int .i64 nm, .slice q es.length cap]].toArray w2 fun e w' => e = .returned (.int .i64 (funcE ⟨nm, bs⟩)) ∧ Ext w2 w' := fun w2 hw2 => by
    have h1 := CheckFunc_calls ⟨nm, bs⟩ ⟨q, cap⟩ w2 (fnR.mono (hw2.up (.head _)) (fnR.stab (hw2.same (.head _) (fun k hk => by exact NotOwned.au)) hfn0))
    simp only [fnC] at h1
    rw [hbl2] at h1
    exact h1
  (((first | (with_reducible apply OL.op) | (with_reducible apply QL.op)); (exact Guard.au); rfl; rfl); (exact Pev.call (v := .int .i64 (funcE ⟨nm, bs⟩)) rfl (by exact Args.au) (fun _ w2 hw2 => (hC w2 hw2).mono (fun e w3 h => ⟨h.1, hw2.ext h.2⟩))))
  apply oas; rfl; rfl
  apply OL.nsr
  apply omv; rfl; rfl
  apply obn; rfl; rfl; rfl; apply Bin.neq
  apply OL.nx
  (refine W.cnd (fun hne => ?_) (fun hne => ?_)) <;> (try (exfalso; first | omega | exact hne trivial | contradiction))
  · apply W.sr
    apply omv; rfl; rfl
    apply oas; rfl; rfl
    apply oas; rfl; rfl
    apply OL.nx
    refine W.rt ?_
    ((with_reducible apply At.fin2); rfl; rfl; rfl; intro w' hw')
    exact ⟨by (exact hw'.fr), .inl ⟨hne, rfl⟩⟩
  have hf0 : funcE ⟨nm, bs⟩ = 0 := by simpa using hne
  obtain ⟨h0, h128, hs0⟩ := func_zero hf0
  simp only at h0 h128 hs0
  obtain ⟨G, hG⟩ : ∃ G, graphB bs = G := ⟨_, rfl⟩
  have hGl : G.length = es.length := by rw [← hG]; simp [graphB, hbl2]
  have hGM : ∀ l ∈ G, l.length ≤ 257 := fun l hl => by
    rw [← hG] at hl
    obtain ⟨b, hb, rfl⟩ := List.mem_map.1 hl
    rw [List.length_map]
    exact to_len hs0 hb
  have hGE : ∀ l ∈ G, ∀ x ∈ l, 1 ≤ x ∧ x < (es.length : Int) := fun l hl x hx => by
    rw [← hG] at hl
    obtain ⟨b, hb, rfl⟩ := List.mem_map.1 hl
    obtain ⟨e, he, rfl⟩ := List.mem_map.1 hx
    have := shape_edges hs0 b hb e he
    omega
  rw [hG]
  apply W.sk
  apply W.sr
  apply ofa; rfl; rfl; rfl
  apply old; rfl; rfl; exact .head _; rfl; rfl
  apply oop; rfl; apply Pev.len_slice; rfl; exact yes; rfl
  apply OL.makeSlice; rfl; rfl; rfl; rfl; rfl; rfl; rfl; omega; (intro bk hbk; simp only [AllLe, and_true] at hbk)
  apply oas; rfl; rfl
  apply OL.nx
  apply W.seq
  apply W.sr
  apply ofa; rfl; rfl; rfl
  apply old; rfl; rfl; exact .tail _ (.head _); rfl; rfl
  apply oop; rfl; apply Pev.len_slice; rfl; exact yes; rfl
  apply omv; rfl; rfl
  apply OL.nx
  apply W.block
  revert bk
  intro bO hbO
  have hbO1 : w.heap.size ≤ bO := by first | exact hbO | exact hbO.1
  rw [slC_zero]
  refine W.loop (G := Nat × List Rw) (fun g => g.1 ≤ es.length ∧ RwsOf g.2 es.length (fun k => predsF (G.take g.1) 0 (k : Int))) (fun g => es.length - g.1)
    (fun g => [(5, true, .slice (some ⟨bO, 0, none⟩) es.length es.length), (20, true, .slice q es.length cap), (21, true, .int .i64 (es.length : Int)), (22, true, .int .i64 (g.1 : Int))])
    (fun g => Cls [rws w.heap.size 3 1 (fun j => g.2[j]?), blk bO 35 (g.2.map slC)] [w]) (0, List.replicate es.length ⟨fun _ => False, none, 0, 0, []⟩) ⟨by simp, by simp, fun k r hr => by rw [(List.mem_replicate.1 (List.mem_of_getElem? hr)).2]; exact ⟨rfl, rfl⟩⟩ (by exact Sub.au) (fun w' hw' => ((hw'.thin (by exact Thin.au)).rws_new w.heap.size 3 1 es.length)) ?_
  rintro ⟨i, L⟩ ⟨hi, hL⟩
  simp only at hi hL ⊢
  have hLl := hL.1
  apply W.sr
  apply obn; rfl; rfl; rfl; apply Bin.lss
  apply OL.nx
  apply W.seq
  (refine W.cnd (fun hlt => ?_) (fun hlt => ?_)) <;> (try (exfalso; first | omega | exact hlt trivial | contradiction))
  · have hil : i < es.length := by omega
    obtain ⟨a, p, hqa, hab, hp, hcell, hok⟩ := he.get hil
    have hab : a.block < w.heap.size := hab
    have hcell : CellsAt w (a.add (i * 7)) [.slice p.2.p.1 p.1.params.length p.2.p.2, .slice p.2.i.1 p.1.ins.length p.2.i.2, .int .i64 p.1.term.kind, .int .i64 p.1.term.arg, .int .i64 p.1.term.n, .slice p.2.t.c.1 p.1.term.cases.length p.2.t.c.2, .slice p.2.t.t.1 p.1.term.to_.length p.2.t.t.2] := hcell
    obtain ⟨ts, hts, harr⟩ := hok.t.t
    have htl2 : p.1.term.to_.length = ts.length := by rw [← hts, List.length_map]
    obtain ⟨l, hl⟩ : ∃ l, p.1.term.to_.map Ed.block = l := ⟨_, rfl⟩
    have hGi : G[i]? = some l := by
      rw [← hG, ← hl, ← hes]
      simp [graphB, hp]
    have hll : l.length = ts.length := by rw [← hl, List.length_map, htl2]
    have hlM := hGM l (List.mem_of_getElem? hGi)
    have hnx : ∀ k : Int, predsF (G.take (i + 1)) 0 k = predsF (G.take i) 0 k ++ List.replicate (l.count k) (i : Int) := fun k => by
      rw [List.take_add_one, hGi, Option.toList_some, predsF_snoc, List.length_take, Nat.min_eq_left (by omega), Nat.zero_add]
    have hbd : ∀ k : Int, (predsF (G.take i) 0 k).length ≤ 128 * 257 := fun k => by
      have h1 := predsF_len (M := 257) (G := G.take i) (n := 0) (k := k) (fun m hm => hGM m (List.mem_of_mem_take hm))
      rw [List.length_take] at h1
      have : min i G.length * 257 ≤ 128 * 257 := Nat.mul_le_mul_right _ (by omega)
      omega
    rw [hqa]
    apply W.sk
    apply W.sb
    apply W.sr
    apply omv; rfl; rfl
    apply oop; rfl; apply Pev.idx; rfl; exact yes; rfl; exact yes; rfl; rfl; intro hcond; omega
    apply oop; rfl; apply Pev.load_keptA; rfl; exact yes; exact .head _; rfl; intro hcond; assumption; rfl; intro hcond; (rw [add_block]; assumption); intro hcond; (focus ((try simp only [add_block]); (repeat (first | exact NotOwned.nil | exact hno _ (by omega) | refine NotOwned.blk (by omega) ?_ | refine NotOwned.row (by omega) ?_ | refine NotOwned.rws (by omega) ?_ | refine NotOwned.pile (by omega) ?_)); done))
    apply OL.alloc; rfl; rfl; exact CellsL.agg; (intro bk hbk; simp only [AllLe, and_true] at hbk)
    apply oas; rfl; rfl
    apply OL.storeB; rfl; rfl; exact CellsL.agg; rfl; rfl; rfl; exact Swap.au; exact Put.au
    apply OL.nsr
    apply ofa; rfl; rfl; rfl
    apply ofa; rfl; rfl; rfl
    apply old; rfl; rfl; exact .head _; rfl; rfl
    apply oop; rfl; apply Pev.len_slice; rfl; exact yes; rfl
    apply omv; rfl; rfl
    apply OL.nx
    apply W.block
    refine W.loop (G := Nat × List Rw) (fun g => g.1 ≤ ts.length ∧ RwsOf g.2 es.length (fun k => predsF (G.take i) 0 (k : Int) ++ List.replicate ((l.take g.1).count (k : Int)) (i : Int))) (fun g => ts.length - g.1)
      (fun g => [(5, true, .slice (some ⟨bO, 0, none⟩) es.length es.length), (6, true, .int .i64 (i : Int)), (20, true, .slice (some a) es.length cap), (21, true, .int .i64 (es.length : Int)), (22, true, .int .i64 (i : Int)), (29, true, .slice p.2.t.t.1 ts.length p.2.t.t.2), (30, true, .int .i64 (ts.length : Int)), (31, true, .int .i64 (g.1 : Int))])
      (fun g => Cls [rws w.heap.size 3 1 (fun j => g.2[j]?), blk bO 35 (g.2.map slC)] [w]) (0, L) ⟨by simp, hL.congr fun k _ => by simp⟩ (by rw [htl2]; exact Sub.au) (fun w' hw' => hw'.thin (by exact Thin.au)) ?_
    rintro ⟨j, M⟩ ⟨hj, hM⟩
    simp only at hj hM ⊢
    have hMl := hM.1
    apply W.sr
    apply obn; rfl; rfl; rfl; apply Bin.lss
    apply OL.nx
    apply W.seq
    (refine W.cnd (fun hlt2 => ?_) (fun hlt2 => ?_)) <;> (try (exfalso; first | omega | exact hlt2 trivial | contradiction))
    · have hjl : j < ts.length := by omega
      obtain ⟨ae, u, hqt, hatb, hu, hcu, hoku⟩ := harr.get hjl
      have hatb : ae.block < w.heap.size := hatb
      have hcu : CellsAt w (ae.add (j * 2)) [.int .i64 u.1.block, .slice u.2.1 u.1.args.length u.2.2] := hcu
      have hlj : l[j]? = some u.1.block := by rw [← hl, ← hts]; simp [hu]
      obtain ⟨hb0, hb1⟩ := hGE l (List.mem_of_getElem? hGi) u.1.block (List.mem_of_getElem? hlj)
      obtain ⟨b, hb⟩ : ∃ b : Nat, u.1.block = (b : Int) := ⟨u.1.block.toNat, by omega⟩
      obtain ⟨r, hr⟩ : ∃ r, M[b]? = some r := ⟨_, List.getElem?_eq_getElem (by omega)⟩
      obtain ⟨hrx, hrm⟩ := hM.2 b r hr
      have hrv : (M.map slC)[0 + (b : Int).toNat * 1]? = some (.slice r.q r.m r.cap) := by
        rw [show 0 + (b : Int).toNat * 1 = b by omega, List.getElem?_map, hr]
        rfl
      have hcb : (l.take j).count (b : Int) ≤ 257 := by
        have h1 : (l.take j).count (b : Int) ≤ (l.take j).length := List.count_le_length
        rw [List.length_take] at h1
        omega
      have hrl : r.m ≤ 1000000 := by
        have h1 := hbd (b : Int)
        rw [hrm, List.length_append, List.length_replicate]
        omega
      rw [hb] at hcu
      rw [hqt]
      apply W.sk
      apply W.sb
      apply W.sr
      apply oop; rfl; apply Pev.idx; rfl; exact yes; rfl; exact yes; rfl; rfl; intro hcond; omega
      apply oop; rfl; apply Pev.load_keptA; rfl; exact yes; exact .head _; rfl; intro hcond; assumption; rfl; intro hcond; (rw [add_block]; assumption); intro hcond; (focus ((try simp only [add_block]); (repeat (first | exact NotOwned.nil | exact hno _ (by omega) | refine NotOwned.blk (by omega) ?_ | refine NotOwned.row (by omega) ?_ | refine NotOwned.rws (by omega) ?_ | refine NotOwned.pile (by omega) ?_)); done))
      apply OL.alloc; rfl; rfl; exact CellsL.agg; (intro bk hbk; simp only [AllLe, and_true] at hbk)
      apply OL.storeB; rfl; rfl; exact CellsL.agg; rfl; rfl; rfl; exact Swap.au; exact Put.au
      apply OL.nx
      revert bk
      intro b9 hb9
      have hb91 : w.heap.size ≤ b9 := by first | exact hb9 | exact hb9.1
      refine W.cls (C' := Cls [row w.heap.size r.O r.q r.m r.cap 3 1 r.xs, rws w.heap.size 3 1 (fout M b), blk b9 105 [.int .i64 (b : Int), .slice u.2.1 u.1.args.length u.2.2], blk bO 35 (M.map slC)] [w]) (fun w' hw' => hw'.flip.rws_out hr) ?_
      refine W.regany (X := XP5 [w]) (fun x e => [(46, true, bif e 11 then .pointer (some ⟨bO, 0 + (b : Int).toNat * 1, none⟩) else x.old 46), (45, true, bif e 10 then .slice (some ⟨x.g1, 0, none⟩) (r.m + 1) x.c1 else x.old 45), (44, true, bif e 9 then .slice (some ⟨x.b1, 0, none⟩) 1 1 else x.old 44), (43, true, bif e 8 then .int .i64 (i : Int) else x.old 43), (42, true, bif e 7 then .slice r.q r.m r.cap else x.old 42), (41, true, bif e 6 then .pointer (some ⟨bO, 0 + (b : Int).toNat * 1, none⟩) else x.old 41), (40, true, bif e 5 then .int .i64 (b : Int) else x.old 40), (39, true, bif e 4 then .pointer (some ⟨b9, 0 + 0, none⟩) else x.old 39), (38, true, bif e 3 then .slice (some ⟨bO, 0, none⟩) es.length es.length else x.old 38), (37, true, bif e 2 then .int .i64 (b : Int) else x.old 37), (36, true, bif e 1 then .pointer (some ⟨b9, 0 + 0, none⟩) else x.old 36), (35, true, bif e 0 then .slice (some ⟨bO, 0, none⟩) es.length es.length else x.old 35), (9, true, .pointer (some ⟨b9, 0, none⟩)), (5, true, .slice (some ⟨bO, 0, none⟩) es.length es.length), (6, true, .int .i64 (i : Int)), (20, true, .slice (some a) es.length cap), (21, true, .int .i64 (es.length : Int)), (22, true, .int .i64 (i : Int)), (29, true, .slice (some ae) ts.length p.2.t.t.2), (30, true, .int .i64 (ts.length : Int)), (31, true, .int .i64 (j : Int))])
        (fun x e => (bif e 10 then row w.heap.size x.O1 (some ⟨x.g1, 0, none⟩) (r.m + 1) x.c1 3 1 (r.xs ++ [.int .i64 (i : Int)]) else row w.heap.size r.O r.q r.m r.cap 3 1 r.xs) :: (rws w.heap.size 3 1 (fout M b)) :: (blk b9 105 [.int .i64 (b : Int), .slice u.2.1 u.1.args.length u.2.2]) :: (blk bO 35 (bif e 12 then (M.map slC).set (0 + (b : Int).toNat * 1) (.slice (some ⟨x.g1, 0, none⟩) (r.m + 1) x.c1) else M.map slC)) :: (bif e 9 then blk x.b1 3 [.int .i64 (i : Int)] else nothing) :: [])
        (fun old => ⟨w.heap.size, ⟨Nat.le_refl _, trivial⟩, 0, 0, fun _ => False, old⟩) (by kernel_rfl) (by kernel_rfl) (fun w hw => hw.drew) (fun old => by repeat (first | exact SubO.nil | apply SubO.cons rfl | refine SubO.old rfl ?_)) (fun old w' hw' => hw'.add_nothing) ?_ ?_
      · intro x e i o ho hei hd hcl
        have hi : i < 13 := (List.getElem?_eq_some_iff.1 ho).1
        obtain rfl | rfl | rfl | rfl | rfl | rfl | rfl | rfl | rfl | rfl | rfl | rfl | rfl : i = 0 ∨ i = 1 ∨ i = 2 ∨ i = 3 ∨ i = 4 ∨ i = 5 ∨ i = 6 ∨ i = 7 ∨ i = 8 ∨ i = 9 ∨ i = 10 ∨ i = 11 ∨ i = 12 := by omega
        · cases ho
          have v0 : Eng.upd e 0 0 = true := upd_eq
          simp only [hei, cond_true, cond_false]
          apply omv; rfl; rfl
          apply OL.nil
          exact At.beside x (by repeat (first | exact Sub.nil | apply Sub.cons rfl | refine Sub.cons_eq rfl (by simp only [v0, cond_true, cond_false]) ?_)) (fun w' hw' => by first | exact hw' | (simp only [v0, cond_true, cond_false]; exact hw'))
        · cases ho
          have v1 : Eng.upd e 1 1 = true := upd_eq
          simp only [hei, cond_true, cond_false]
          apply ofa; rfl; rfl; rfl
          apply OL.nil
          exact At.beside x (by repeat (first | exact Sub.nil | apply Sub.cons rfl | refine Sub.cons_eq rfl (by simp only [v1, cond_true, cond_false]) ?_)) (fun w' hw' => by first | exact hw' | (simp only [v1, cond_true, cond_false]; exact hw'))
        · cases ho
          have h1 : e 1 = true := hd ⟨1, .data⟩ (by simp) rfl
          have v2 : Eng.upd e 2 2 = true := upd_eq
          have v1 : Eng.upd e 2 1 = true := upd_mono h1
          simp only [hei, h1, cond_true, cond_false]
          apply old; rfl; rfl; exact .tail _ (.tail _ (.head _)); rfl; rfl
          apply OL.nil
          exact At.beside x (by repeat (first | exact Sub.nil | apply Sub.cons rfl | refine Sub.cons_eq rfl (by simp only [v2, v1, cond_true, cond_false]) ?_)) (fun w' hw' => by first | exact hw' | (simp only [v2, v1, cond_true, cond_false]; exact hw'))
        · cases ho
          have v3 : Eng.upd e 3 3 = true := upd_eq
          simp only [hei, cond_true, cond_false]
          apply omv; rfl; rfl
          apply OL.nil
          exact At.beside x (by repeat (first | exact Sub.nil | apply Sub.cons rfl | refine Sub.cons_eq rfl (by simp only [v3, cond_true, cond_false]) ?_)) (fun w' hw' => by first | exact hw' | (simp only [v3, cond_true, cond_false]; exact hw'))
        · cases ho
          have v4 : Eng.upd e 4 4 = true := upd_eq
          simp only [hei, cond_true, cond_false]
          apply ofa; rfl; rfl; rfl
          apply OL.nil
          exact At.beside x (by repeat (first | exact Sub.nil | apply Sub.cons rfl | refine Sub.cons_eq rfl (by simp only [v4, cond_true, cond_false]) ?_)) (fun w' hw' => by first | exact hw' | (simp only [v4, cond_true, cond_false]; exact hw'))
        · cases ho
          have h4 : e 4 = true := hd ⟨4, .data⟩ (by simp) rfl
          have v5 : Eng.upd e 5 5 = true := upd_eq
          have v4 : Eng.upd e 5 4 = true := upd_mono h4
          simp only [hei, h4, cond_true, cond_false]
          apply old; rfl; rfl; exact .tail _ (.tail _ (.head _)); rfl; rfl
          apply OL.nil
          exact At.beside x (by repeat (first | exact Sub.nil | apply Sub.cons rfl | refine Sub.cons_eq rfl (by simp only [v5, v4, cond_true, cond_false]) ?_)) (fun w' hw' => by first | exact hw' | (simp only [v5, v4, cond_true, cond_false]; exact hw'))
        · cases ho
          have h3 : e 3 = true := hd ⟨3, .data⟩ (by simp) rfl
          have h5 : e 5 = true := hd ⟨5, .data⟩ (by simp) rfl
          have v6 : Eng.upd e 6 6 = true := upd_eq
          have v3 : Eng.upd e 6 3 = true := upd_mono h3
          have v5 : Eng.upd e 6 5 = true := upd_mono h5
          simp only [hei, h3, h5, cond_true, cond_false]
          apply oop; rfl; apply Pev.idxB; rfl; exact yes; rfl; exact yes; rfl; intro hcond; omega; rfl
          apply OL.nil
          exact At.beside x (by repeat (first | exact Sub.nil | apply Sub.cons rfl | refine Sub.cons_eq rfl (by simp only [v6, v3, v5, cond_true, cond_false]) ?_)) (fun w' hw' => by first | exact hw' | (simp only [v6, v3, v5, cond_true, cond_false]; exact hw'))
        · cases ho
          have h6 : e 6 = true := hd ⟨6, .data⟩ (by simp) rfl
          have h12 : e 12 = false := hcl.not (i := 7) (j := 12) rfl hei (by kernel_rfl)
          have v7 : Eng.upd e 7 7 = true := upd_eq
          have v6 : Eng.upd e 7 6 = true := upd_mono h6
          have v12 : Eng.upd e 7 12 = false := h12
          simp only [hei, h6, h12, cond_true, cond_false]
          apply oop; rfl; apply Pev.load_blk; rfl; exact yes; apply List.Mem.tail; exact .tail _ (.tail _ (.head _)); rfl; assumption
          apply OL.nil
          exact At.beside x (by repeat (first | exact Sub.nil | apply Sub.cons rfl | refine Sub.cons_eq rfl (by simp only [v7, v6, v12, cond_true, cond_false]) ?_)) (fun w' hw' => by first | exact hw' | (simp only [v7, v6, v12, cond_true, cond_false]; exact hw'))
        · cases ho
          have v8 : Eng.upd e 8 8 = true := upd_eq
          simp only [hei, cond_true, cond_false]
          apply omv; rfl; rfl
          apply OL.nil
          exact At.beside x (by repeat (first | exact Sub.nil | apply Sub.cons rfl | refine Sub.cons_eq rfl (by simp only [v8, cond_true, cond_false]) ?_)) (fun w' hw' => by first | exact hw' | (simp only [v8, cond_true, cond_false]; exact hw'))
        · cases ho
          have h8 : e 8 = true := hd ⟨8, .data⟩ (by simp) rfl
          have v9 : Eng.upd e 9 9 = true := upd_eq
          have v8 : Eng.upd e 9 8 = true := upd_mono h8
          simp only [hei, h8, cond_true, cond_false]
          apply OL.buildSlice; rfl; rfl; rfl; exact Elems.au; rfl; rfl; (intro bk hbk; simp only [AllLe, and_true] at hbk)
          apply OL.nil
          exact At.beside { x with b1 := bk, hb1 := ⟨hbk, trivial⟩ } (by repeat (first | exact Sub.nil | apply Sub.cons rfl | refine Sub.cons_eq rfl (by simp only [v9, v8, cond_true, cond_false]) ?_)) (fun w' hw' => by simp only [v9, v8, cond_true, cond_false]; exact Cls.fill (p := 4) (H := _ :: _ :: _ :: _ :: _ :: []) (.s (.s (.s (.s .z)))) hw')
        · cases ho
          have h7 : e 7 = true := hd ⟨7, .data⟩ (by simp) rfl
          have h9 : e 9 = true := hd ⟨9, .data⟩ (by simp) rfl
          have h12 : e 12 = false := hcl.not (i := 10) (j := 12) rfl hei (by kernel_rfl)
          have v10 : Eng.upd e 10 10 = true := upd_eq
          have v7 : Eng.upd e 10 7 = true := upd_mono h7
          have v9 : Eng.upd e 10 9 = true := upd_mono h9
          have v12 : Eng.upd e 10 12 = false := h12
          simp only [hei, h7, h9, h12, cond_true, cond_false]
          apply OL.append; rfl; rfl; rfl; rfl; exact Hole.au; apply List.Mem.tail; apply List.Mem.tail; exact .tail _ (.tail _ (.head _)); exact Take.au; rfl; rfl; exact ⟨_, .head _, Nat.le_refl _⟩; omega; intro O1 g1 cap1
          apply OL.nil
          exact At.beside { x with g1 := g1, c1 := cap1, O1 := O1 } (by repeat (first | exact Sub.nil | apply Sub.cons rfl | refine Sub.cons_eq rfl (by simp only [v10, v7, v9, v12, cond_true, cond_false]) ?_)) (fun w' hw' => by first | exact hw' | (simp only [v10, v7, v9, v12, cond_true, cond_false]; exact hw'))
        · cases ho
          have h0 : e 0 = true := hd ⟨0, .data⟩ (by simp) rfl
          have h2 : e 2 = true := hd ⟨2, .data⟩ (by simp) rfl
          have v11 : Eng.upd e 11 11 = true := upd_eq
          have v0 : Eng.upd e 11 0 = true := upd_mono h0
          have v2 : Eng.upd e 11 2 = true := upd_mono h2
          simp only [hei, h0, h2, cond_true, cond_false]
          apply oop; rfl; apply Pev.idxB; rfl; exact yes; rfl; exact yes; rfl; intro hcond; omega; rfl
          apply OL.nil
          exact At.beside x (by repeat (first | exact Sub.nil | apply Sub.cons rfl | refine Sub.cons_eq rfl (by simp only [v11, v0, v2, cond_true, cond_false]) ?_)) (fun w' hw' => by first | exact hw' | (simp only [v11, v0, v2, cond_true, cond_false]; exact hw'))
        · cases ho
          have h10 : e 10 = true := hd ⟨10, .data⟩ (by simp) rfl
          have h11 : e 11 = true := hd ⟨11, .data⟩ (by simp) rfl
          have v12 : Eng.upd e 12 12 = true := upd_eq
          have v10 : Eng.upd e 12 10 = true := upd_mono h10
          have v11 : Eng.upd e 12 11 = true := upd_mono h11
          simp only [hei, h10, h11, cond_true, cond_false]
          apply OL.storeI
          rfl
          rfl
          rfl
          rfl
          rfl
          exact Swap.au
          · rw [List.length_map]; omega
          apply OL.nil
          exact At.beside x (by repeat (first | exact Sub.nil | apply Sub.cons rfl | refine Sub.cons_eq rfl (by simp only [v12, v10, v11, cond_true, cond_false]) ?_)) (fun w' hw' => by first | exact hw' | (simp only [v12, v10, v11, cond_true, cond_false]; exact hw'))
      · intro x e hall
        simp only [hall 0 (by decide), hall 1 (by decide), hall 2 (by decide), hall 3 (by decide), hall 4 (by decide), hall 5 (by decide), hall 6 (by decide), hall 7 (by decide), hall 8 (by decide), hall 9 (by decide), hall 10 (by decide), hall 11 (by decide), hall 12 (by decide), cond_true, cond_false]
        with_reducible apply At.in_normal
        with_reducible apply At.next
        apply W.reg
        apply obn; rfl; rfl; rfl; apply Bin.add_in; omega
        apply omv; rfl; rfl
        apply OL.nil
        have hlt3 : b < M.length := by omega
        have hcn : ∀ k : Nat, (l.take (j + 1)).count (k : Int) = (l.take j).count (k : Int) + if b = k then 1 else 0 := fun k => by
          rw [List.take_add_one, hlj, Option.toList_some, List.count_append, List.count_singleton, hb]
          by_cases e2 : b = k
          · rw [if_pos e2, if_pos (by rw [e2]; simp)]
          · rw [if_neg e2, if_neg (by simp; omega)]
        refine At.again (j + 1, M.set b ⟨x.O1, some ⟨x.g1, 0, none⟩, r.m + 1, x.c1, r.xs ++ [.int .i64 (i : Int)]⟩) ⟨by simp only; omega, hM.set ⟨?_, ?_⟩ fun k hk => ?_⟩ (by simp only; omega) (by exact Sub.au) (fun w' hw' => ?_)
        · simp only
          rw [hcn b, if_pos rfl, List.replicate_succ', ← List.append_assoc, ints_append, hrx]
          rfl
        · simp only
          rw [hcn b, if_pos rfl, List.replicate_succ', ← List.append_assoc, List.length_append, ← hrm]
          rfl
        · simp only
          rw [hcn k, if_neg (fun e2 => hk e2.symm), Nat.add_zero]
        · have h9 := hw'.rws_in hlt3
          have hx1 := x.hb1
          rw [show (M.map slC).set (0 + (b : Int).toNat * 1) (.slice (some ⟨x.g1, 0, none⟩) (r.m + 1) x.c1) = (M.set b ⟨x.O1, some ⟨x.g1, 0, none⟩, r.m + 1, x.c1, r.xs ++ [.int .i64 (i : Int)]⟩).map slC by
            rw [show 0 + (b : Int).toNat * 1 = b by omega]
            exact slC_set M b ⟨x.O1, some ⟨x.g1, 0, none⟩, r.m + 1, x.c1, r.xs ++ [.int .i64 (i : Int)]⟩] at h9
          exact h9.thin (.keep (.any (fun k hk => by rw [show k = b9 from hk]; exact ⟨hb91, trivial⟩) (.keep (.any (fun k hk => by rw [show k = x.b1 from hk]; exact hx1) Thin.nil))))
    · obtain rfl : j = ts.length := by omega
      refine W.xt ?_
      with_reducible apply At.in_normal
      with_reducible apply At.next
      apply W.reg
      apply obn; rfl; rfl; rfl; apply Bin.add_in; omega
      apply omv; rfl; rfl
      apply OL.nil
      refine At.again (i + 1, M) ⟨by simp only; omega, hM.congr fun k _ => ?_⟩ (by simp only; omega) (by exact Sub.au) (fun w' hw' => hw')
      simp only
      rw [hnx, ← hll, List.take_length]
  · obtain rfl : i = es.length := by omega
    refine W.xt ?_
    with_reducible apply At.next
    apply W.sr
    apply omv; rfl; rfl
    apply oas; rfl; rfl
    apply oas; rfl; rfl
    apply OL.nx
    apply W.ret
    ((with_reducible apply At.fin2); rfl; rfl; rfl; intro w' hw')
    refine ⟨hw'.toExt (by exact mau) (fun k hk => NotOwned.rws hk (NotOwned.blk (by omega) NotOwned.nil)), .inr ⟨hf0, bO, rfl, blk_lt (hw'.item (.tail _ (.head _))), fun k hk => ?_⟩⟩
    obtain ⟨r, hr⟩ : ∃ r, L[k]? = some r := ⟨_, List.getElem?_eq_getElem (by omega)⟩
    obtain ⟨hrx, hrm⟩ := hL.2 k r hr
    simp only at hrx hrm
    rw [← hGl, List.take_length] at hrx hrm
    have h9 := hw'.rws_out hr
    rw [hrx] at h9
    refine ⟨r.q, r.cap, ?_, rowIntsL h9 (.head _)⟩
    rw [blk_cell (hw'.item (.tail _ (.head _))), List.getElem?_map, hr, ← hrm]
    rfl
end Go.Proofs.Ytehelljmaiophaa.ss

/- Plain: the order that the search gives is an order for dominators. No program in sight. No condition. -/
namespace Go.Ss
set_option linter.unusedVariables false
set_option linter.unusedSimpArgs false
set_option linter.unusedVariables false
set_option linter.unusedSimpArgs false
theorem idxN_nodup : ∀ {l : List Int} {i : Nat} {v : Int} (k : Nat), l.Nodup → l[i]? = some v → idxN v l k = ((k + i : Nat) : Int)
  | [], i, v, k, _, h => by simp at h
  | x :: l, 0, v, k, _, h => by
    simp only [List.getElem?_cons_zero, Option.some.injEq] at h
    subst h
    simp [idxN]
  | x :: l, i + 1, v, k, hn, h => by
    have h1 : l[i]? = some v := by simpa using h
    have hne : ¬ v = x := fun e => by
      subst e
      exact (List.nodup_cons.1 hn).1 (List.mem_of_getElem? h1)
    rw [idxN, if_neg hne, idxN_nodup (k + 1) (List.nodup_cons.1 hn).2 h1]
    congr 1
    omega
/-- the order and the places -/
def ordL (G : List (List Int)) : List Int := (visC G 0 (List.replicate G.length false, [])).2.reverse
def plc0 (G : List (List Int)) (k : Nat) : Int := idxN (k : Int) (ordL G) 0
def plN (G : List (List Int)) (k : Nat) : Nat := (plc0 G k).toNat
section
variable {G : List (List Int)} (hG : ∀ l ∈ G, ∀ e ∈ l, 0 ≤ e ∧ e < (G.length : Int)) (h0 : 0 < G.length)
include hG h0
theorem ordL_nodup : (ordL G).Nodup := by
  unfold ordL
  exact (List.reverse_perm _).symm.nodup (vis_all hG h0).1
theorem ordL_mem (v : Int) : v ∈ ordL G ↔ ∃ k : Nat, v = (k : Int) ∧ Rc G (-1) k := by
  unfold ordL
  rw [List.mem_reverse]
  exact (vis_all hG h0).2 v
theorem plc0_iff (k : Nat) : 0 ≤ plc0 G k ↔ Rc G (-1) k := by
  unfold plc0
  rw [idxN_mem, ordL_mem hG h0]
  constructor
  · rintro ⟨j, e, h⟩
    obtain rfl : k = j := by omega
    exact h
  · exact fun h => ⟨k, rfl, h⟩
theorem plN_get {i : Nat} {k : Nat} (h : (ordL G)[i]? = some (k : Int)) : plN G k = i := by
  unfold plN plc0
  rw [idxN_nodup 0 (ordL_nodup hG h0) h]
  omega
theorem ordL_at {k : Nat} (h : Rc G (-1) k) : (ordL G)[plN G k]? = some (k : Int) := by
  obtain ⟨i, hi⟩ := List.getElem?_of_mem ((ordL_mem hG h0 (k : Int)).2 ⟨k, rfl, h⟩)
  rw [plN_get hG h0 hi]
  exact hi
theorem ordL_len : (ordL G).length ≤ G.length := by
  have h1 := ordL_nodup hG h0
  have h2 : ∀ x ∈ ordL G, x ∈ (List.range G.length).map fun k : Nat => (k : Int) := fun x hx => by
    obtain ⟨k, rfl, hk⟩ := (ordL_mem hG h0 x).1 hx
    exact List.mem_map.2 ⟨k, List.mem_range.2 hk.lt, rfl⟩
  have := nodup_le h1 h2
  simpa using this
theorem ordL_head : (ordL G)[0]? = some 0 := by
  have _ := hG
  have hS0 : (List.replicate G.length false)[0]? = some false := by simp [h0]
  unfold ordL
  rw [visC_eq G hS0, List.reverse_append]
  rfl
theorem bf_pl {b c : Nat} (h : Bf (visC G 0 (List.replicate G.length false, [])).2 b c) : plN G c < plN G b := by
  unfold Bf at h
  rw [List.cons_sublist_iff] at h
  obtain ⟨r1, r2, h1, h2, h3⟩ := h
  have h4 := List.singleton_sublist.1 h3
  obtain ⟨i, hi⟩ := List.getElem?_of_mem h2
  obtain ⟨j, hj⟩ := List.getElem?_of_mem h4
  have hil := (List.getElem?_eq_some_iff.1 hi).1
  have hjl := (List.getElem?_eq_some_iff.1 hj).1
  have hb : (ordL G)[r2.length + (r1.length - 1 - i)]? = some (b : Int) := by
    unfold ordL
    rw [h1, List.reverse_append, List.getElem?_append_right (by simp), List.length_reverse, Nat.add_sub_cancel_left, List.getElem?_reverse (by omega), show r1.length - 1 - (r1.length - 1 - i) = i by omega]
    exact hi
  have hc : (ordL G)[r2.length - 1 - j]? = some (c : Int) := by
    unfold ordL
    rw [h1, List.reverse_append, List.getElem?_append_left (by simp; omega), List.getElem?_reverse (by omega), show r2.length - 1 - (r2.length - 1 - j) = j by omega]
    exact hj
  rw [plN_get hG h0 hb, plN_get hG h0 hc]
  omega
theorem ordOk : OrdOk G (plN G) := by
  obtain ⟨h1, h2⟩ := dfs_fwd hG h0
  have hfp : ∀ {a b : Nat}, Fp G (visC G 0 (List.replicate G.length false, [])).2 a b → Fq G (plN G) a b := fun {a b} h => by
    induction h with
    | refl => exact .refl
    | step _ he hb ih => exact .step ih he (bf_pl hG h0 hb)
  have hz : plN G 0 = 0 := plN_get hG h0 (ordL_head hG h0)
  refine ⟨hz, fun a b ha hb e => ?_, fun k hk hk0 => ?_, fun p k hp he hl => ?_, fun k hk => ?_, fun a b he => edge_lt hG he, h0⟩
  · have h3 := ordL_at hG h0 ha
    rw [e, ordL_at hG h0 hb] at h3
    have := Option.some.inj h3
    omega
  · cases h1 k hk with
    | refl => exact absurd rfl hk0
    | @step c _ h he hb =>
      refine ⟨c, ?_, he, bf_pl hG h0 hb⟩
      have := hb.mem.2
      obtain ⟨j, e, hj⟩ := ((vis_all hG h0).2 _).1 this
      obtain rfl : c = j := by omega
      exact hj
  · rcases h2 p k hp he with h | h
    · have := bf_pl hG h0 h
      omega
    · exact hfp h
  · have h3 := ordL_at hG h0 hk
    have := (List.getElem?_eq_some_iff.1 h3).1
    have := ordL_len hG h0
    omega
end
end Go.Ss

/- The walks of the reference's visit and After. Conditions: none. -/
namespace Go.Eng
set_option linter.unusedVariables false
set_option linter.unusedSimpArgs false
open Go.RowKit
theorem Cls.back23 {H : List Item} {S : List World} {w : World} {x y a b c : Item} (h : Cls (x :: y :: a :: b :: c :: H) S w) : Cls (a :: b :: c :: x :: y :: H) S w := h.perm (List.Perm.append_right H (List.perm_append_comm (l₁ := [x, y]) (l₂ := [a, b, c])))
theorem Cls.back32 {H : List Item} {S : List World} {w : World} {x y a b c : Item} (h : Cls (a :: b :: c :: x :: y :: H) S w) : Cls (x :: y :: a :: b :: c :: H) S w := h.perm (List.Perm.append_right H (List.perm_append_comm (l₁ := [a, b, c]) (l₂ := [x, y])))
end Go.Eng
namespace Go.Ss
set_option linter.unusedVariables false
set_option linter.unusedSimpArgs false
open Go.Eng Go.RowKit
set_option linter.unusedVariables false
set_option linter.unusedSimpArgs false
/-- outputs and marks: each mark gives one output -/
theorem vis_cnt (G : List (List Int)) : ∀ (f k : Nat) (st : VS), st.1[k]? = some false → (vis G f k st).2.length + unseen (vis G f k st).1 = st.2.length + unseen st.1
  | 0, k, st, _ => rfl
  | f + 1, k, st, hk => by
    have hf : ∀ (l : List Int) (s : VS), (vfold G f s l).2.length + unseen (vfold G f s l).1 = s.2.length + unseen s.1 := by
      intro l
      induction l with
      | nil => exact fun s => rfl
      | cons e l ih =>
        intro s
        rw [vfold_cons, ih]
        unfold vstep
        split
        · rfl
        · rename_i hs
          exact vis_cnt G f e.toNat s (getD_false hs)
    have h1 := hf (nxt G k) (st.1.set k true, st.2)
    have h2 := unseen_set hk
    rw [vis_succ]
    simp only [List.length_append, List.length_cons, List.length_nil] at h1 ⊢
    omega
theorem visC_cnt {G : List (List Int)} {k : Nat} {st : VS} (h : st.1[k]? = some false) : (visC G k st).2.length + unseen (visC G k st).1 = st.2.length + unseen st.1 := vis_cnt G _ k st h
theorem foldC_cnt (G : List (List Int)) : ∀ (l : List Int) (s : VS), (foldC G s l).2.length + unseen (foldC G s l).1 = s.2.length + unseen s.1
  | [], s => rfl
  | e :: l, s => by
    rw [foldC_cons, foldC_cnt G l]
    unfold stepC
    split
    · rfl
    · rename_i hs
      exact visC_cnt (getD_false hs)
theorem foldC_snoc (G : List (List Int)) (s : VS) (l : List Int) (e : Int) : foldC G s (l ++ [e]) = stepC G (foldC G s l) e := by
  unfold foldC
  rw [List.foldl_append]
  rfl
end Go.Ss
namespace Go.Proofs.Ytehelljmaiophaa.ss
set_option linter.unusedVariables false
set_option linter.unusedSimpArgs false
set_option maxRecDepth 100000
open Go.Eng Go.RowKit Go.Ss
set_option linter.unusedVariables false
set_option linter.unusedSimpArgs false
theorem visit_calls (s0 : World) (es : List (Bk × BkY)) (q : Option Addr) (cap : Nat) (nm : Int) (he : Arr bkR s0 (low s0) es q) (hlen : es.length ≤ 128) (hE : ∀ p ∈ es, ∀ e ∈ p.1.term.to_, 1 ≤ e.block ∧ e.block < (es.length : Int)) (bS b4 B : Nat) (hbS : s0.heap.size ≤ bS) (hb4 : s0.heap.size ≤ b4) (hB : s0.heap.size ≤ B) (SS : List World) (hs0 : s0 ∈ SS) (hBS : ∃ s ∈ SS, B ≤ s.heap.size) :
    ∀ (n k : Nat) (S : List Bool) (out : List Int) (O : Nat → Prop) (qo : Option Addr) (co : Nat) (H : List Eng.Item) (w : World), unseen S ≤ n → S.length = es.length → S[k]? = some false → out.length + unseen S ≤ es.length → (∀ k, k < s0.heap.size → NotOwned H k) →
      Cls (blk bS 4 (bls S) :: blk b4 35 [.slice qo out.length co] :: row B O qo out.length co 3 1 (ints out) :: H) SS w →
      Calls Try.prog 89 [.agg #[.int .i64 nm, .slice q es.length cap], .int .i64 (k : Int), .slice (some ⟨bS, 0, none⟩) es.length es.length, .pointer (some ⟨b4, 0, none⟩)].toArray w fun e w' => ∃ (O' : Nat → Prop) (qo' : Option Addr) (co' : Nat), e = .returned (.tuple #[]) ∧ Cls (blk bS 4 (bls (visC (graphB (es.map Prod.fst)) k (S, out)).1) :: blk b4 35 [.slice qo' (visC (graphB (es.map Prod.fst)) k (S, out)).2.length co'] :: row B O' qo' (visC (graphB (es.map Prod.fst)) k (S, out)).2.length co' 3 1 (ints (visC (graphB (es.map Prod.fst)) k (S, out)).2) :: H) SS w'
  | 0, k, S, out, O, qo, co, H, w, hn, _, hk, _, _, _ => by have := unseen_pos hk; omega
  | n + 1, k, S, out, O, qo, co, H, w, hn, hSl, hk, hcnt, hno, hc => by
    obtain ⟨G, hG⟩ : ∃ G, graphB (es.map Prod.fst) = G := ⟨_, rfl⟩
    have ih := visit_calls s0 es q cap nm he hlen hE bS b4 B hbS hb4 hB SS hs0 hBS n
    rw [hG] at ih ⊢
    have hkl : k < es.length := by rw [← hSl]; exact (List.getElem?_eq_some_iff.1 hk).1
    have hun := unseen_set hk
    rw [visC_eq G hk]
    obtain ⟨a, p, hqa, hab, hp, hcell, hok⟩ := he.get hkl
    have hab : a.block < s0.heap.size := hab
    have hcell : CellsAt s0 (a.add (k * 7)) [.slice p.2.p.1 p.1.params.length p.2.p.2, .slice p.2.i.1 p.1.ins.length p.2.i.2, .int .i64 p.1.term.kind, .int .i64 p.1.term.arg, .int .i64 p.1.term.n, .slice p.2.t.c.1 p.1.term.cases.length p.2.t.c.2, .slice p.2.t.t.1 p.1.term.to_.length p.2.t.t.2] := hcell
    have hpE := hE p (List.mem_of_getElem? hp)
    have hcT : s0.cell? ⟨(a.add (k * 7)).block, (a.add (k * 7)).off + 2 + 4, none⟩ = some (.slice p.2.t.t.1 p.1.term.to_.length p.2.t.t.2) := hcell 6 _ rfl
    have htl := hok.t.tl
    obtain ⟨ts, hts, harr⟩ := hok.t.t
    have htl2 : p.1.term.to_.length = ts.length := by rw [← hts, List.length_map]
    obtain ⟨l, hl⟩ : ∃ l, p.1.term.to_.map Ed.block = l := ⟨_, rfl⟩
    have hnx : nxt G k = l := by
      unfold nxt
      rw [List.getD_eq_getElem?_getD, ← hG, ← hl]
      simp [graphB, hp]
    have hll : l.length = ts.length := by rw [← hl, List.length_map, htl2]
    rw [hnx]
    subst hqa
    refine enter Try.func89 rfl Try.ntmps89 rfl hc ?_
    (simp only [argEnv, Nat.zero_add, Nat.reduceAdd])
    apply W.sr
    apply OL.box; rfl; rfl; exact CellsL.agg; intro bk hbk
    apply OL.nsr
    apply omv; rfl; rfl
    apply omv; rfl; rfl
    apply oop; rfl; apply Pev.idxB; rfl; exact yes; rfl; exact yes; rfl; intro hcond; omega; rfl
    revert bk
    intro bF hbF
    have hbF1 : AllLe SS bF := by first | exact hbF | exact AllLe.mk hc
    have hbF2 : s0.heap.size ≤ bF := hbF1.mem s0 hs0
    (apply OL.storeI); rfl; rfl; rfl; rfl; rfl; (exact Swap.au); (rw [bls_length]; omega)
    rw [show (bls S).set (0 + (k : Int).toNat * 1) (.bool true) = bls (S.set k true) by rw [show 0 + (k : Int).toNat * 1 = k by omega]; exact bls_set _ _ _]
    apply OL.nx
    apply W.seq
    apply W.sr
    apply ofa; rfl; rfl; rfl
    apply old; rfl; rfl; exact .head _; rfl; rfl
    apply omv; rfl; rfl
    apply oop; rfl; apply Pev.idx; rfl; exact yes; rfl; exact yes; rfl; rfl; intro hcond; omega
    apply oop; rfl; apply Pev.fldA; rfl; exact yes; rfl
    apply ofa; rfl; rfl; rfl
    apply oop; rfl; apply Pev.load_kept; rfl; exact yes; assumption; rfl; intro hcond; assumption; intro hcond; (rw [add_block]; assumption); intro hcond; exact NotOwned.au
    apply oop; rfl; apply Pev.len_slice; rfl; exact yes; rfl
    apply omv; rfl; rfl
    apply OL.nx
    apply W.block
    refine W.loop (G := Nat × GR) (fun g => g.1 ≤ ts.length) (fun g => ts.length - g.1)
      (fun g => [(1, true, .int .i64 (k : Int)), (2, true, .slice (some ⟨bS, 0, none⟩) es.length es.length), (3, true, .pointer (some ⟨b4, 0, none⟩)), (4, true, .pointer (some ⟨bF, 0, none⟩)), (19, true, .slice p.2.t.t.1 ts.length p.2.t.t.2), (20, true, .int .i64 (ts.length : Int)), (21, true, .int .i64 (g.1 : Int))])
      (fun g => Cls (blk bF 24 [.int .i64 nm, .slice (some a) es.length cap] :: blk bS 4 (bls (foldC G (S.set k true, out) (l.take g.1)).1) :: blk b4 35 [.slice g.2.q (foldC G (S.set k true, out) (l.take g.1)).2.length g.2.c] :: row B g.2.O g.2.q (foldC G (S.set k true, out) (l.take g.1)).2.length g.2.c 3 1 (ints (foldC G (S.set k true, out) (l.take g.1)).2) :: H) SS) (0, ⟨O, qo, co⟩) (by simp) (by rw [htl2]; exact Sub.au) (fun w' hw' => hw') ?_
    rintro ⟨j, ⟨Op, qp, cp⟩⟩ hj
    simp only at hj ⊢
    have hle := foldC_le G (l.take j) (S.set k true, out)
    have hct := foldC_cnt G (l.take j) (S.set k true, out)
    have hln := hle.len
    have hun2 := hle.un
    simp only [List.length_set] at hct hln hun2
    obtain ⟨st, hst⟩ : ∃ st, foldC G (S.set k true, out) (l.take j) = st := ⟨_, rfl⟩
    rw [hst] at hct hln hun2 ⊢
    apply W.sr
    apply obn; rfl; rfl; rfl; apply Bin.lss
    apply OL.nx
    apply W.seq
    (refine W.cnd (fun hlt => ?_) (fun hlt => ?_)) <;> (try (exfalso; first | omega | exact hlt trivial | contradiction))
    · have hjl : j < ts.length := by omega
      obtain ⟨ae, u, hqt, hatb, hu, hcu, hoku⟩ := harr.get hjl
      have hatb : ae.block < s0.heap.size := hatb
      have hcu : CellsAt s0 (ae.add (j * 2)) [.int .i64 u.1.block, .slice u.2.1 u.1.args.length u.2.2] := hcu
      have hto : p.1.term.to_[j]? = some u.1 := by rw [← hts, List.getElem?_map, hu]; rfl
      have hlj : l[j]? = some u.1.block := by rw [← hl, List.getElem?_map, hto]; rfl
      obtain ⟨hb0, hb1⟩ := hpE u.1 (List.mem_of_getElem? hto)
      obtain ⟨m, hm⟩ : ∃ m : Nat, u.1.block = (m : Int) := ⟨u.1.block.toNat, by omega⟩
      have hnst : foldC G (S.set k true, out) (l.take (j + 1)) = stepC G st (m : Int) := by
        rw [List.take_add_one, hlj, Option.toList_some, foldC_snoc, hst, hm]
      have hmS : st.1[m]? = some (st.1.getD m false) := getD_true (by omega)
      have hmv : (bls st.1)[0 + (m : Int).toNat * 1]? = some (.bool (st.1.getD m false)) := by
        rw [show 0 + (m : Int).toNat * 1 = m by omega]
        exact bls_get hmS
      rw [hm] at hcu
      rw [hqt]
      generalize hz : st.1.getD m false = z at *
      apply W.sk
      apply W.sb
      apply W.sr
      apply oop; rfl; apply Pev.idx; rfl; exact yes; rfl; exact yes; rfl; rfl; intro hcond; omega
      apply oop; rfl; apply Pev.load_keptA; rfl; exact yes; assumption; rfl; intro hcond; assumption; rfl; intro hcond; (rw [add_block]; assumption); intro hcond; exact NotOwned.au
      apply OL.alloc; rfl; rfl; exact CellsL.agg; intro bk hbk
      apply OL.storeB; rfl; rfl; exact CellsL.agg; rfl; rfl; rfl; exact Swap.au; exact Put.au
      apply OL.nsr
      apply omv; rfl; rfl
      apply ofa; rfl; rfl; rfl
      apply old; rfl; rfl; exact .head _; rfl; rfl
      apply oop; rfl; apply Pev.idxB; rfl; exact yes; rfl; exact yes; rfl; intro hcond; omega; rfl
      apply oop; rfl; apply Pev.load_blk; rfl; exact yes; exact .tail _ (.tail _ (.head _)); rfl; assumption
      apply oop; rfl; apply Pev.not; rfl; exact yes
      apply OL.nx
      revert bk
      intro b9 hb9
      have hb91 : AllLe SS b9 := by first | exact hb9 | exact AllLe.mk hc
      have hb92 : s0.heap.size ≤ b9 := hb91.mem s0 hs0
      cases hzv : z with
      | true =>
        rw [hzv] at hmS
        refine W.cond rfl (fun h9 => by cases h9) (fun h9 => ?_)
        apply W.skip
        with_reducible apply At.in_normal
        with_reducible apply At.next
        apply W.reg
        apply obn; rfl; rfl; rfl; apply Bin.add_in; omega
        apply omv; rfl; rfl
        apply OL.nil
        exact At.again (j + 1, ⟨Op, qp, cp⟩) (by simp only; omega) (by simp only; omega) (by exact Sub.au) (fun w' hw' => by
          simp only
          rw [hnst, stepC_seen (by simpa using hmS)]
          exact hw'.thin (.any (fun k hk => by rw [show k = b9 from hk]; exact hb91) Thin.same))
      | false =>
        rw [hzv] at hmS
        refine W.cond rfl (fun h9 => ?_) (fun h9 => by cases h9)
        apply W.reg
        apply oop; rfl; apply Pev.load_blkA; rfl; exact yes; exact .tail _ (.head _); rfl; exact Take.au
        apply ofa; rfl; rfl; rfl
        apply old; rfl; rfl; exact .head _; rfl; rfl
        apply omv; rfl; rfl
        apply omv; rfl; rfl
        refine OL.callE (α := GR) (fun _ => .tuple #[]) (fun _ => True) (fun g => Cls (blk b9 105 [.int .i64 (m : Int), .slice u.2.1 u.1.args.length u.2.2] :: blk bF 24 [.int .i64 nm, .slice (some a) es.length cap] :: blk bS 4 (bls (visC G m (st.1, st.2)).1) :: blk b4 35 [.slice g.q (visC G m (st.1, st.2)).2.length g.c] :: row B g.O g.q (visC G m (st.1, st.2)).2.length g.c 3 1 (ints (visC G m (st.1, st.2)).2) :: H) SS) rfl rfl (by exact Args.au) (fun w2 hw2 => (ih m st.1 st.2 Op qp cp (blk b9 105 [.int .i64 (m : Int), .slice u.2.1 u.1.args.length u.2.2] :: blk bF 24 [.int .i64 nm, .slice (some a) es.length cap] :: H) w2 (by omega) (by omega) hmS (by omega) (fun k hk => NotOwned.blk (by omega) (NotOwned.blk (by omega) (hno k hk))) hw2.back23).mono fun e w3 ⟨O', qo', co', h1, h2⟩ => ⟨⟨O', qo', co'⟩, h1, trivial, h2.back32⟩) ?_
        rintro ⟨O1, q1, c1⟩ _
        apply OL.nil
        with_reducible apply At.in_normal
        with_reducible apply At.next
        apply W.reg
        apply obn; rfl; rfl; rfl; apply Bin.add_in; omega
        apply omv; rfl; rfl
        apply OL.nil
        exact At.again (j + 1, ⟨O1, q1, c1⟩) (by simp only; omega) (by simp only; omega) (by exact Sub.au) (fun w' hw' => by
          simp only
          rw [hnst, stepC_new (by simpa using hmS)]
          exact hw'.thin (.any (fun k hk => by rw [show k = b9 from hk]; exact hb91) Thin.same))
    · obtain rfl : j = ts.length := by omega
      have hlt : l.take ts.length = l := by rw [← hll, List.take_length]
      rw [hlt] at hst
      rw [hst]
      have hol : st.2.length ≤ 128 := by omega
      refine W.xt ?_
      with_reducible apply At.next
      apply W.reg
      apply omv; rfl; rfl
      apply omv; rfl; rfl
      apply oop; rfl; apply Pev.nil_ptr; rfl; exact yes
      apply old; rfl; rfl; exact .tail _ (.tail _ (.head _)); rfl; rfl
      apply omv; rfl; rfl
      apply OL.buildSlice; rfl; rfl; rfl; exact Elems.au; rfl; rfl; intro bk hbk
      apply OL.append; rfl; rfl; rfl; rfl; exact Hole.au; exact .head _; exact Take.au; rfl; rfl; assumption; omega; intro O1 g1 cap1
      apply oop; rfl; apply Pev.nil_ptr; rfl; exact yes
      apply OL.storeB; rfl; rfl; exact CellsL.one rfl; rfl; rfl; rfl; exact Swap.au; exact Put.au
      apply OL.nil
      refine At.end_ (At.fin0 rfl (fun w' hw' => ⟨O1, some ⟨g1, 0, none⟩, cap1, rfl, ?_⟩))
      simp only [List.length_append, List.length_cons, List.length_nil, ints_append]
      exact hw'.thin (.any (fun k hk => by rw [show k = bk from hk]; first | exact hbk | exact AllLe.mk hc) (.any (fun k hk => by rw [show k = bF from hk]; exact hbF1) Thin.same))
theorem After_calls (es : List (Bk × BkY)) (q : Option Addr) (cap : Nat) (nm : Int) (w : World) (he : Arr bkR w (low w) es q) (hlen : es.length ≤ 128) (h0 : 0 < es.length) (hE : ∀ p ∈ es, ∀ e ∈ p.1.term.to_, 1 ≤ e.block ∧ e.block < (es.length : Int)) :
    Calls Try.prog 41 [.agg #[.int .i64 nm, .slice q es.length cap]].toArray w fun e w' => ∃ (O : Nat → Prop) (g : Option Addr) (c : Nat), e = .returned (.slice g (visC (graphB (es.map Prod.fst)) 0 (List.replicate es.length false, [])).2.length c) ∧ Cls [row w.heap.size O g (visC (graphB (es.map Prod.fst)) 0 (List.replicate es.length false, [])).2.length c 3 1 (ints (visC (graphB (es.map Prod.fst)) 0 (List.replicate es.length false, [])).2)] [w] w' := by
  refine enter Try.func41 rfl Try.ntmps41 rfl (Cls.start w) ?_
  (simp only [argEnv, Nat.zero_add, Nat.reduceAdd])
  apply W.sr
  apply OL.box; rfl; rfl; exact CellsL.agg; (intro bk hbk; simp only [AllLe, and_true] at hbk)
  apply oas; rfl; rfl
  apply OL.nsr
  apply ofa; rfl; rfl; rfl
  apply old; rfl; rfl; exact .head _; rfl; rfl
  apply oop; rfl; apply Pev.len_slice; rfl; exact yes; rfl
  apply OL.makeSlice; rfl; rfl; rfl; rfl; rfl; rfl; rfl; omega; (intro bk hbk; simp only [AllLe, and_true] at hbk)
  apply oas; rfl; rfl
  apply OL.nsr
  apply OL.alloc; rfl; rfl; exact CellsL.one rfl; (intro bk hbk; simp only [AllLe, and_true] at hbk)
  apply OL.nsr
  apply oop; rfl; apply Pev.load_blkA; rfl; exact yes; exact .tail _ (.tail _ (.head _)); rfl; exact Take.au
  apply omv; rfl; rfl
  rw [bls_zero]
  rename_i bF hbF bS hbS
  revert bk
  intro b4 hb4
  have hbF1 : w.heap.size ≤ bF := by first | exact hbF | exact hbF.1
  have hbS1 : w.heap.size ≤ bS := by first | exact hbS | exact hbS.1
  have hb41 : w.heap.size ≤ b4 := by first | exact hb4 | exact hb4.1
  have hV := fun w2 => visit_calls w es q cap nm he hlen hE bS b4 w.heap.size hbS1 hb41 (Nat.le_refl _) [w] (.head _) ⟨w, .head _, Nat.le_refl _⟩ es.length 0 (List.replicate es.length false) [] (fun _ => False) none 0 [blk bF 24 [.int .i64 nm, .slice q es.length cap]] w2 (by have := unseen_le (List.replicate es.length false); simpa using this) (by simp) (by simp [h0]) (by have := unseen_le (List.replicate es.length false); simpa using this) (fun k hk => NotOwned.blk (by omega) NotOwned.nil)
  obtain ⟨st, hst⟩ : ∃ st, visC (graphB (es.map Prod.fst)) 0 (List.replicate es.length false, []) = st := ⟨_, rfl⟩
  rw [hst] at hV ⊢
  refine OL.callE (α := GR) (fun _ => .tuple #[]) (fun _ => True) (fun g => Cls [blk bS 4 (bls st.1), blk b4 35 [.slice g.q st.2.length g.c], row w.heap.size g.O g.q st.2.length g.c 3 1 (ints st.2), blk bF 24 [.int .i64 nm, .slice q es.length cap]] [w]) rfl rfl (by exact Args.au) (fun w2 hw2 => (hV w2 (hw2.flip.row_nil w.heap.size 3 1).back2).mono fun e w3 ⟨O', qo', co', h1, h2⟩ => ⟨⟨O', qo', co'⟩, h1, trivial, h2⟩) ?_
  rintro ⟨O1, q1, c1⟩ _
  simp only
  apply OL.nsr
  apply old; rfl; rfl; exact .tail _ (.head _); rfl; rfl
  apply oas; rfl; rfl
  apply OL.nx
  apply W.ret
  ((with_reducible apply At.fin1); rfl; rfl; intro w' hw')
  exact ⟨O1, q1, c1, rfl, hw'.thin (.any (fun k hk => by rw [show k = bS from hk]; exact ⟨hbS1, trivial⟩) (.any (fun k hk => by rw [show k = b4 from hk]; exact ⟨hb41, trivial⟩) (.keep (.any (fun k hk => by rw [show k = bF from hk]; exact ⟨hbF1, trivial⟩) Thin.nil))))⟩
end Go.Proofs.Ytehelljmaiophaa.ss

/- The walks of cfg's search with what Order hands it. Conditions: none. -/
namespace Go.Eng
set_option linter.unusedVariables false
set_option linter.unusedSimpArgs false
open Go.RowKit
theorem AllLe.of {k : Nat} : ∀ {S : List World}, (∀ s ∈ S, s.heap.size ≤ k) → AllLe S k
  | [], _ => trivial
  | s :: S, h => ⟨h s (.head _), AllLe.of fun x hx => h x (.tail _ hx)⟩
section
variable {P : Program} {n : Nat} {l : Env} {H : List Item} {S : List World} {ops : Array Oper} {rest : List Oper} {Q : Exit → Act → World → Prop} {t ty : TypeId} {x y : Operand} {pos : String} {af : Array Edge}
/-- a store of one cell into a grown row of elements of any size -/
theorem OL.storeRs {g0 o p base m cap size : Nat} {O : Nat → Prop} {e : TypeId} {xs : List Value} {v : Value} {F : Item → List Item} (hx : evl l x = some (true, .pointer (some ⟨g0, o, none⟩))) (hy : evl l y = some (true, v)) (hv : v.cells = #[v])
    (hs : sizeN P t = some 1) (h1 : oneL [v] = true) (hH : Hole p H (row base O (some ⟨g0, 0, none⟩) m cap e size xs) F) (hl : o < xs.length)
    (kk : OL P n ops Q rest l (Cls (F (row base O (some ⟨g0, 0, none⟩) m cap e size (xs.set o v))) S)) : OL P n ops Q (⟨none, .store t x y, ty, pos, af, none⟩ :: rest) l (Cls H S) := by
  obtain ⟨hp, hF⟩ := hH.eq
  rw [hF] at kk
  refine OL.store_ (C' := Cls (H.set p (row base O (some ⟨g0, 0, none⟩) m cap e size (xs.set o v))) S) rfl rfl (fun a w hs' hc => ?_) kk
  have hi := hc.item (List.mem_of_getElem? hp)
  obtain ⟨hO, hxl, hor⟩ := hi
  rcases hor with ⟨h3, _⟩ | ⟨gg, cap', cur, h3, hb, hg, h4, h5, h6, h7⟩
  · cases h3
  · simp only [Value.slice.injEq, Option.some.injEq, Addr.mk.injEq] at h3
    obtain ⟨⟨rfl, _⟩, _, rfl⟩ := h3
    have hcl : o < cur.toList.length := by
      rw [← h7, List.length_take] at hl
      omega
    obtain ⟨w', hr', hh, hkp⟩ := run_storeAt_blk (P := P) (o := o) (vs := [v]) (cs := cur.toList) (t' := e) (w := w) (b := g0) (by simpa using hg) hs hv rfl (show o + 1 ≤ cur.toList.length from hcl) h1
    refine ⟨w', ?_, hc.turn p hp (j := row base O (some ⟨g0, 0, none⟩) m cap e size (xs.set o v)) ⟨hkp.os, hkp.tape, hkp.output, hkp.size, fun k hk hn => hkp.block k hk (fun e2 => hn (by rw [show k = g0 from e2]; exact ⟨hb, hO _ rfl⟩))⟩ ?_ (fun q hq => ⟨.inl hq, Nat.lt_of_lt_of_le (hc.lt _ (List.mem_of_getElem? hp) q hq) hkp.size⟩) (fun q hq => hq)⟩
    · simp only [execOp, hs'.eval hx rfl, hs'.eval hy rfl, Sem.run_bind, hr', Result.andThen_ok]; rfl
    · refine ⟨hO, by rw [List.length_set]; exact hxl, .inr ⟨g0, cap, (cur.toList.set o v).toArray, rfl, hb, hh, h4, h5, by simpa using h6, ?_⟩⟩
      rw [← h7]
      simp only [List.take_set]
end
end Go.Eng
namespace Go.Ss
set_option linter.unusedVariables false
set_option linter.unusedSimpArgs false
open Go.Eng Go.RowKit
set_option linter.unusedVariables false
set_option linter.unusedSimpArgs false
def plc (p : Nat × Nat) : List Value := [.int .i64 (p.1 : Int), .int .i64 (p.2 : Int)]
theorem plc_len : ∀ p, (plc p).length = 2 := fun _ => rfl
theorem mu_pop {G : List (List Int)} {D : Nat} {S : List Bool} {p : Nat × Nat} {r : List (Nat × Nat)} : muR G D S r < muR G D S (p :: r) := by
  unfold muR
  rw [List.map_cons, List.sum_cons]
  omega
theorem mu_seen {G : List (List Int)} {D : Nat} {S : List Bool} {b j : Nat} {r : List (Nat × Nat)} (h : j < (nxt G b).length) : muR G D S ((b, j + 1) :: r) < muR G D S ((b, j) :: r) := by
  unfold muR
  simp only [List.map_cons, List.sum_cons]
  omega
theorem mu_new {G : List (List Int)} {D : Nat} {S : List Bool} {b j m : Nat} {r : List (Nat × Nat)} (h : j < (nxt G b).length) (hm : S[m]? = some false) (hD : (nxt G m).length ≤ D) : muR G D (S.set m true) ((m, 0) :: (b, j + 1) :: r) < muR G D S ((b, j) :: r) := by
  have h1 := unseen_set hm
  unfold muR
  simp only [List.map_cons, List.sum_cons]
  rw [← h1, Nat.succ_mul]
  omega
/-- a state of the search -/
structure SgS where
  st : List (Nat × Nat)
  S : List Bool
  out : List Int
  y : GR
  z : GR
/-- what holds of it -/
structure SInv (G : List (List Int)) (n : Nat) (fin : VS) (g : SgS) : Prop where
  run : Go.Ss.run G g.st (g.S, g.out) = fin
  len : g.S.length = n
  cnt : g.st.length + g.out.length + unseen g.S ≤ n
  ok : ∀ p ∈ g.st, p.1 < n ∧ p.2 ≤ (nxt G p.1).length
end Go.Ss
namespace Go.Proofs.Ytehelljmaiophaa.ss
set_option linter.unusedVariables false
set_option linter.unusedSimpArgs false
set_option maxRecDepth 100000
open Go.Eng Go.RowKit Go.Ss
set_option linter.unusedVariables false
set_option linter.unusedSimpArgs false
theorem leave_calls (b5 B : Nat) (k : Int) (out : List Int) (O : Nat → Prop) (q : Option Addr) (c : Nat) (H : List Eng.Item) (SS : List World) (w : World) (hBS : ∃ s ∈ SS, B ≤ s.heap.size) (hout : out.length ≤ 1000)
    (hc : Cls (blk b5 35 [.slice q out.length c] :: row B O q out.length c 3 1 (ints out) :: H) SS w) :
    Calls Try.prog 87 [.int .i64 k, .pointer (some ⟨b5, 0, none⟩)].toArray w fun e w' => ∃ (O' : Nat → Prop) (q' : Option Addr) (c' : Nat), e = .returned (.tuple #[]) ∧ Cls (blk b5 35 [.slice q' (out ++ [k]).length c'] :: row B O' q' (out ++ [k]).length c' 3 1 (ints (out ++ [k])) :: H) SS w' := by
  refine enter Try.func87 rfl Try.ntmps87 rfl hc ?_
  (simp only [argEnv, Nat.zero_add, Nat.reduceAdd])
  apply W.reg
  apply old; rfl; rfl; exact .head _; rfl; rfl
  apply omv; rfl; rfl
  apply OL.buildSlice; rfl; rfl; rfl; exact Elems.au; rfl; rfl; intro bk hbk
  apply OL.append; rfl; rfl; rfl; rfl; exact Hole.au; exact .head _; exact Take.au; rfl; rfl; assumption; omega; intro O1 g1 cap1
  apply OL.storeB; rfl; rfl; exact CellsL.one rfl; rfl; rfl; rfl; exact Swap.au; exact Put.au
  apply OL.nil
  refine At.end_ (At.fin0 rfl (fun w' hw' => ⟨O1, some ⟨g1, 0, none⟩, cap1, rfl, ?_⟩))
  simp only [List.length_append, List.length_cons, List.length_nil, ints_append]
  exact hw'.thin (.any (fun k hk => by rw [show k = bk from hk]; first | exact hbk | exact AllLe.mk hc) Thin.same)
theorem search_calls (s0 : World) (es : List (Bk × BkY)) (q : Option Addr) (cap : Nat) (nm : Int) (he : Arr bkR s0 (low s0) es q) (hlen : es.length ≤ 128) (h0 : 0 < es.length) (hE : ∀ p ∈ es, (∀ e ∈ p.1.term.to_, 1 ≤ e.block ∧ e.block < (es.length : Int)) ∧ p.1.term.to_.length ≤ 257) (b5 B : Nat) (hb5 : s0.heap.size ≤ b5) (hB : s0.heap.size ≤ B) (SS : List World) (hs0 : s0 ∈ SS) (hSS : ∀ s ∈ SS, s.heap.size ≤ s0.heap.size) (hBS : ∃ s ∈ SS, B ≤ s.heap.size) (O : Nat → Prop) (qo : Option Addr) (co : Nat) (H : List Eng.Item) (w : World) (hno : ∀ k, k < s0.heap.size → NotOwned H k)
    (hc : Cls (blk b5 35 [.slice qo 0 co] :: row B O qo 0 co 3 1 [] :: H) SS w) :
    Calls Try.prog 86 [.agg #[.int .i64 nm, .slice q es.length cap], .func (.func 87) ([] : List Value).toArray [.pointer (some ⟨b5, 0, none⟩)].toArray].toArray w fun e w' => ∃ (O' : Nat → Prop) (qo' : Option Addr) (co' : Nat), e = .returned (.tuple #[]) ∧ Cls (blk b5 35 [.slice qo' (visC (graphB (es.map Prod.fst)) 0 (List.replicate es.length false, [])).2.length co'] :: row B O' qo' (visC (graphB (es.map Prod.fst)) 0 (List.replicate es.length false, [])).2.length co' 3 1 (ints (visC (graphB (es.map Prod.fst)) 0 (List.replicate es.length false, [])).2) :: H) SS w' := by
  obtain ⟨G, hG⟩ : ∃ G, graphB (es.map Prod.fst) = G := ⟨_, rfl⟩
  have hGl : G.length = es.length := by rw [← hG]; simp [graphB]
  rw [hG]
  obtain ⟨fin, hfin⟩ : ∃ fin, visC G 0 (List.replicate es.length false, []) = fin := ⟨_, rfl⟩
  rw [hfin]
  have hnD : ∀ m, (nxt G m).length ≤ 257 := fun m => by
    unfold nxt
    rw [List.getD_eq_getElem?_getD, ← hG]
    unfold graphB
    rw [List.getElem?_map, List.getElem?_map]
    cases hm : es[m]? with
    | none => simp
    | some p => simp only [Option.map_some, Option.getD_some, List.length_map]; exact (hE p (List.mem_of_getElem? hm)).2
  have hS0 : (List.replicate es.length false)[0]? = some false := by simp [h0]
  have hu0 := unseen_set hS0
  have hu1 := unseen_le (List.replicate es.length false)
  rw [List.length_replicate] at hu1
  refine enter Try.func86 rfl Try.ntmps86 rfl hc ?_
  (simp only [argEnv, Nat.zero_add, Nat.reduceAdd])
  apply W.sr
  apply OL.box; rfl; rfl; exact CellsL.agg; intro bk hbk
  apply OL.nsr
  apply ofa; rfl; rfl; rfl
  apply old; rfl; rfl; exact .head _; rfl; rfl
  apply oop; rfl; apply Pev.len_slice; rfl; exact yes; rfl
  apply OL.makeSlice; rfl; rfl; rfl; rfl; rfl; rfl; rfl; omega; intro bk hbk
  apply oas; rfl; rfl
  apply OL.nsr
  apply omv; rfl; rfl
  apply oop; rfl; apply Pev.idxB; rfl; exact yes; rfl; exact yes; rfl; intro hcond; omega; rfl
  rename_i bF hbF
  revert bk
  intro bS hbS
  have hbF1 : AllLe SS bF := by first | exact hbF | exact AllLe.mk hc
  have hbF2 : s0.heap.size ≤ bF := hbF1.mem s0 hs0
  have hbS1 : AllLe SS bS := by first | exact hbS | exact AllLe.mk hc
  have hbS2 : s0.heap.size ≤ bS := hbS1.mem s0 hs0
  rw [bls_zero]
  (apply OL.storeI); rfl; rfl; rfl; rfl; rfl; (exact Swap.au); (rw [bls_length, List.length_replicate]; omega)
  rw [show (bls (List.replicate es.length false)).set (0 + Int.toNat 0 * 1) (.bool true) = bls ((List.replicate es.length false).set 0 true) from bls_set _ _ _]
  apply OL.nsr
  apply oop; rfl; apply Pev.build; rfl; exact CellsL.agg; rfl; exact Fill.au; rfl
  apply OL.buildSlice; rfl; rfl; rfl; exact Elems.au; rfl; rfl; intro bk hbk
  apply oas; rfl; rfl
  apply OL.nx
  apply W.block
  revert bk
  intro bP hbP
  have hbP1 : AllLe SS bP := by first | exact hbP | exact AllLe.mk hc
  have hbP2 : s0.heap.size ≤ bP := hbP1.mem s0 hs0
  have hlow : ∀ k, s0.heap.size ≤ k → AllLe SS k := fun k hk => AllLe.of fun s hs => Nat.le_trans (hSS s hs) hk
  refine W.loop (G := SgS) (fun g => SInv G es.length fin g) (fun g => muR G 257 g.S g.st)
    (fun g => [(1, true, .func (.func 87) ([] : List Value).toArray [.pointer (some ⟨b5, 0, none⟩)].toArray), (2, true, .pointer (some ⟨bF, 0, none⟩)), (4, true, .slice (some ⟨bS, 0, none⟩) es.length es.length), (5, true, .slice g.y.q g.st.length g.y.c)])
    (fun g => Cls (row s0.heap.size g.y.O g.y.q g.st.length g.y.c 183 2 (cat plc g.st.reverse) :: blk bS 4 (bls g.S) :: blk bF 24 [.int .i64 nm, .slice q es.length cap] :: blk b5 35 [.slice g.z.q g.out.length g.z.c] :: row B g.z.O g.z.q g.out.length g.z.c 3 1 (ints g.out) :: H) SS) ⟨[(0, 0)], (List.replicate es.length false).set 0 true, [], ⟨fun k => k = bP, some ⟨bP, 0, none⟩, 1⟩, ⟨O, qo, co⟩⟩ ⟨by simp only; rw [run_start hS0, hfin], by simp, by simp only [List.length_cons, List.length_nil]; omega, fun p hp => (by rw [show p = (0, 0) by simpa using hp]; exact ⟨h0, Nat.zero_le _⟩)⟩ (by exact Sub.au) (fun w' hw' => hw'.blk_row hbP2 rfl (by simp [maxLen])) ?_
  rintro ⟨st, S, out, ⟨Oy, qy, cy⟩, ⟨Oz, qz, cz⟩⟩ hI
  obtain ⟨hrun, hSl, hcnt, hok⟩ := hI
  simp only at hrun hSl hcnt hok ⊢
  cases hst : st with
  | nil =>
    subst hst
    apply W.seq
    apply W.sr
    apply omv; rfl; rfl
    apply oop; rfl; apply Pev.len_slice; rfl; exact yes; rfl
    apply obn; rfl; rfl; rfl; apply Bin.gtr
    apply OL.nx
    refine W.cond rfl (fun h => by simp at h) (fun h => ?_)
    refine W.xt ?_
    rw [run] at hrun
    refine At.end_ (At.fin0 rfl (fun w' hw' => ⟨Oz, qz, cz, rfl, ?_⟩))
    rw [← hrun]
    exact hw'.thin (.any (fun k hk => hlow k hk.1) (.any (fun k hk => by rw [show k = bS from hk]; exact hbS1) (.any (fun k hk => by rw [show k = bF from hk]; exact hbF1) Thin.same)))
  | cons p r =>
    obtain ⟨b, j⟩ := p
    subst hst
    simp only [List.length_cons] at hcnt ⊢
    refine W.fact (fun w2 hw2 => row_some (hw2.item (.head _)) (by omega)) ?_
    rintro ⟨gy, rfl⟩
    obtain ⟨hbl, hjl⟩ := hok (b, j) (.head _)
    simp only at hbl hjl
    obtain ⟨a, p, hqa, hab, hp, hcell, hokp⟩ := he.get hbl
    have hab : a.block < s0.heap.size := hab
    have hcT : s0.cell? ⟨(a.add (b * 7)).block, (a.add (b * 7)).off + 2 + 4, none⟩ = some (.slice p.2.t.t.1 p.1.term.to_.length p.2.t.t.2) := hcell 6 _ rfl
    obtain ⟨hpE, htl⟩ := hE p (List.mem_of_getElem? hp)
    obtain ⟨ts, hts, harr⟩ := hokp.t.t
    have htl2 : p.1.term.to_.length = ts.length := by rw [← hts, List.length_map]
    obtain ⟨l, hl⟩ : ∃ l, p.1.term.to_.map Ed.block = l := ⟨_, rfl⟩
    have hnx : nxt G b = l := by
      unfold nxt
      rw [List.getD_eq_getElem?_getD, ← hG, ← hl]
      simp [graphB, hp]
    have hll : l.length = ts.length := by rw [← hl, List.length_map, htl2]
    have hjt : j ≤ ts.length := by rw [← hll, ← hnx]; exact hjl
    obtain ⟨L, hLL⟩ : ∃ L, ((b, j) :: r).reverse = L := ⟨_, rfl⟩
    have hLr : L = r.reverse ++ [(b, j)] := by rw [← hLL, List.reverse_cons]
    have hLn : L.length = r.length + 1 := by rw [hLr]; simp
    have hLt : L[r.length]? = some (b, j) := by rw [hLr, List.getElem?_append_right (by simp)]; simp
    rw [hLL]
    rw [htl2] at hcT
    subst hqa
    apply W.seq
    apply W.sr
    apply omv; rfl; rfl
    apply oop; rfl; apply Pev.len_slice; rfl; exact yes; rfl
    apply obn; rfl; rfl; rfl; apply Bin.gtr
    apply OL.nx
    refine W.cond rfl (fun h => ?_) (fun h => by simp at h)
    apply W.sk
    apply W.block
    apply W.sr
    apply omv; rfl; rfl
    apply omv; rfl; rfl
    apply oop; rfl; apply Pev.len_slice; rfl; exact yes; rfl
    apply obn; rfl; rfl; rfl; apply Bin.sub_in; omega
    apply oop; rfl; apply Pev.idxB; rfl; exact yes; rfl; exact yes; rfl; intro hcond; omega; rfl
    apply oas; rfl; rfl
    apply OL.nx
    apply W.seq
    apply W.regd0; decide +kernel; kernel_rfl; decide +kernel; exact fun w hw => hw.drew
    apply qfa; rfl; rfl; rfl
    apply qld; rfl; rfl; exact .tail _ (.tail _ (.head _)); rfl; rfl
    apply qmv; rfl; rfl
    apply qop; rfl; apply Pev.nil_ptr; rfl; exact yes
    apply qfa; rfl; rfl; rfl
    apply qop; rfl; apply Pev.load_rowC; rfl; exact yes; exact .head _; rfl; exact fun _ => rfl; (intro hcond; assumption); rfl; (intro hcond; omega)
    apply qop; rfl; apply Pev.idx; rfl; exact yes; rfl; exact yes; rfl; rfl; intro hcond; omega
    apply qop; rfl; apply Pev.fldA; rfl; exact yes; rfl
    apply qfa; rfl; rfl; rfl
    apply qop; rfl; apply Pev.load_kept; rfl; exact yes; assumption; rfl; intro hcond; assumption; intro hcond; (rw [add_block]; assumption); intro hcond; exact NotOwned.au
    apply qas; rfl; rfl
    apply QL.nil
    with_reducible apply At.next
    apply W.seq
    apply W.sr
    apply omv; rfl; rfl
    apply oop; rfl; apply Pev.nil_ptr; rfl; exact yes
    apply ofa; rfl; rfl; rfl
    apply oop; rfl; apply Pev.load_rowC; rfl; exact yes; exact .head _; rfl; exact fun _ => rfl; (intro hcond; assumption); rfl; (intro hcond; omega)
    apply omv; rfl; rfl
    apply oop; rfl; apply Pev.len_slice; rfl; exact yes; rfl
    apply obn; rfl; rfl; rfl; apply Bin.eql
    apply OL.nx
    have hidx : (((r.length + 1 : Nat) : Int) - 1).toNat = r.length := by omega
    have hsub : ((r.length + 1 : Nat) : Int) - 1 = (r.length : Int) := by omega
    simp only [hidx, hsub]
    refine W.fact (fun w2 hw2 => row_cap (hw2.item (.head _))) ?_
    intro hcap
    (refine W.cnd (fun hje => ?_) (fun hje => ?_)) <;> (try (exfalso; first | omega | exact hje trivial | contradiction))
    · have hjn : j = ts.length := by omega
      apply W.sr
      apply omv; rfl; rfl
      apply omv; rfl; rfl
      apply oop; rfl; apply Pev.nil_ptr; rfl; exact yes
      apply ofa; rfl; rfl; rfl
      apply oop; rfl; apply Pev.load_rowC; rfl; exact yes; exact .head _; rfl; exact fun _ => rfl; (intro hcond; assumption); rfl; (intro hcond; omega)
      refine OL.callvE (α := GR) (first := []) (cap := [.pointer (some ⟨b5, 0, none⟩)]) (vs := [.int .i64 (b : Int)]) (fun _ => .tuple #[]) (fun _ => True) (fun g => Cls (row s0.heap.size Oy (some ⟨gy, 0, none⟩) (r.length + 1) cy 183 2 (cat plc L) :: blk bS 4 (bls S) :: blk bF 24 [.int .i64 nm, .slice (some a) es.length cap] :: blk b5 35 [.slice g.q (out ++ [(b : Int)]).length g.c] :: row B g.O g.q (out ++ [(b : Int)]).length g.c 3 1 (ints (out ++ [(b : Int)])) :: H) SS) rfl rfl rfl (by exact Args.au) (fun w2 hw2 => (leave_calls b5 B (b : Int) out Oz qz cz _ SS w2 hBS (by omega) hw2.back32).mono fun e w3 ⟨O', q', c', h1, h2⟩ => ⟨⟨O', q', c'⟩, h1, trivial, h2.back23⟩) ?_
      rintro ⟨O1, q1, c1⟩ _
      simp only
      apply OL.nsr
      apply omv; rfl; rfl
      apply omv; rfl; rfl
      apply oop; rfl; apply Pev.len_slice; rfl; exact yes; rfl
      apply obn; rfl; rfl; rfl; apply Bin.sub_in; omega
      apply oop; rfl; apply Pev.slice_hi; rfl; exact yes; rfl; exact yes; rfl; (first | exact (Int.toNat_of_nonneg (by omega)).symm | omega); intro hcond; omega
      apply oas; rfl; rfl
      apply OL.nx
      refine W.xt ?_
      simp only [hidx]
      refine At.again ⟨r, S, out ++ [(b : Int)], ⟨Oy, some ⟨gy, 0, none⟩, cy⟩, ⟨O1, q1, c1⟩⟩ ⟨by simp only; rw [← run_pop (j := j) (by rw [hnx, hll]; omega)]; exact hrun, hSl, by simp only [List.length_append, List.length_cons, List.length_nil]; omega, fun p hp => hok p (.tail _ hp)⟩ mu_pop (by exact Sub.au) (fun w' hw' => ?_)
      exact Cls.rowPop (p := 0) r.length (cat plc r.reverse) .z (by omega) (by rw [hLr, cat_append, ← List.length_reverse, ← cat_length plc_len, List.take_left]) hw'
    · have hjl2 : j < ts.length := by omega
      obtain ⟨ae, u, hqt, hatb, hu, hcu, hoku⟩ := harr.get hjl2
      have hatb : ae.block < s0.heap.size := hatb
      have hcu : CellsAt s0 (ae.add (j * 2)) [.int .i64 u.1.block, .slice u.2.1 u.1.args.length u.2.2] := hcu
      have hto : p.1.term.to_[j]? = some u.1 := by rw [← hts, List.getElem?_map, hu]; rfl
      have hlj : (nxt G b)[j]? = some u.1.block := by rw [hnx, ← hl, List.getElem?_map, hto]; rfl
      obtain ⟨hb0, hb1⟩ := hpE u.1 (List.mem_of_getElem? hto)
      obtain ⟨m, hm⟩ : ∃ m : Nat, u.1.block = (m : Int) := ⟨u.1.block.toNat, by omega⟩
      have hmS : S[m]? = some (S.getD m false) := getD_true (by omega)
      have hmv : (bls S)[0 + (m : Int).toNat * 1]? = some (.bool (S.getD m false)) := by
        rw [show 0 + (m : Int).toNat * 1 = m by omega]
        exact bls_get hmS
      rw [hm] at hcu hlj
      have hset : ∀ v, v = Value.int .i64 ((j : Int) + 1) → (cat plc L).set (0 + (r.length : Int).toNat * 2 + 1) v = cat plc (r.reverse ++ [(b, j + 1)]) := fun v hv => by
        rw [hv, hLr, cat_append, cat_append, show 0 + (r.length : Int).toNat * 2 + 1 = (cat plc r.reverse).length + 1 by rw [cat_length plc_len]; simp]
        rw [List.set_append_right _ _ (by omega), show (cat plc r.reverse).length + 1 - (cat plc r.reverse).length = 1 by omega]
        rfl
      generalize hz : S.getD m false = z at *
      rw [hqt]
      apply W.sk
      apply W.sr
      apply omv; rfl; rfl
      apply omv; rfl; rfl
      apply oop; rfl; apply Pev.nil_ptr; rfl; exact yes
      apply ofa; rfl; rfl; rfl
      apply oop; rfl; apply Pev.load_rowC; rfl; exact yes; exact .head _; rfl; exact fun _ => rfl; (intro hcond; assumption); rfl; (intro hcond; omega)
      apply oop; rfl; apply Pev.idx; rfl; exact yes; rfl; exact yes; rfl; rfl; intro hcond; omega
      apply oop; rfl; apply Pev.fldA; rfl; exact yes; rfl
      apply oop; rfl; apply Pev.load_kept; rfl; exact yes; assumption; rfl; intro hcond; apply CellsAt.at_ (by assumption) rfl; intro hcond; (simp only [add_block]; assumption); intro hcond; exact NotOwned.au
      apply oas; rfl; rfl
      apply OL.nsr
      apply omv; rfl; rfl
      apply oop; rfl; apply Pev.nil_ptr; rfl; exact yes
      apply ofa; rfl; rfl; rfl
      apply oop; rfl; apply Pev.load_rowC; rfl; exact yes; exact .head _; rfl; exact fun _ => rfl; (intro hcond; assumption); rfl; (intro hcond; omega)
      apply obn; rfl; rfl; rfl; apply Bin.add_in; omega
      apply oop; rfl; apply Pev.nil_ptr; rfl; exact yes
      apply ofa; rfl; rfl; rfl
      (apply OL.storeRs); rfl; rfl; rfl; rfl; rfl; (exact Hole.au); (rw [cat_length plc_len, hLn]; omega)
      rw [hset _ rfl]
      apply OL.nsr
      apply omv; rfl; rfl
      apply omv; rfl; rfl
      apply oop; rfl; apply Pev.idxB; rfl; exact yes; rfl; exact yes; rfl; intro hcond; omega; rfl
      apply oop; rfl; apply Pev.load_blk; rfl; exact yes; exact .tail _ (.head _); rfl; assumption
      apply oop; rfl; apply Pev.not; rfl; exact yes
      apply OL.nx
      cases hzv : z with
      | true =>
        rw [hzv] at hmS
        refine W.cond rfl (fun h9 => by cases h9) (fun h9 => ?_)
        apply W.skip
        with_reducible apply At.in_normal
        refine At.again ⟨(b, j + 1) :: r, S, out, ⟨Oy, some ⟨gy, 0, none⟩, cy⟩, ⟨Oz, qz, cz⟩⟩ ⟨by simp only; rw [← run_seen hlj (by simpa using hmS)]; exact hrun, hSl, by simp only [List.length_cons]; omega, fun p hp => ?_⟩ (mu_seen (by rw [hnx, hll]; exact hjl2)) (by exact Sub.au) (fun w' hw' => ?_)
        · rcases List.mem_cons.1 hp with rfl | hp
          · exact ⟨hbl, by simp only; rw [hnx, hll]; omega⟩
          · exact hok p (.tail _ hp)
        · simp only [List.reverse_cons]
          exact hw'
      | false =>
        rw [hzv] at hmS
        refine W.cond rfl (fun h9 => ?_) (fun h9 => by cases h9)
        apply W.sr
        apply omv; rfl; rfl
        apply omv; rfl; rfl
        apply oop; rfl; apply Pev.idxB; rfl; exact yes; rfl; exact yes; rfl; intro hcond; omega; rfl
        (apply OL.storeI); rfl; rfl; rfl; rfl; rfl; (exact Swap.au); (rw [bls_length]; omega)
        rw [show (bls S).set (0 + (m : Int).toNat * 1) (.bool true) = bls (S.set m true) by rw [show 0 + (m : Int).toNat * 1 = m by omega]; exact bls_set _ _ _]
        apply OL.nx
        apply W.reg
        apply omv; rfl; rfl
        apply omv; rfl; rfl
        apply oop; rfl; apply Pev.build; rfl; exact CellsL.agg; rfl; exact Fill.au; rfl
        apply OL.buildSlice; rfl; rfl; rfl; exact Elems.au; rfl; rfl; intro bk hbk
        apply OL.appendP; rfl; rfl; rfl; rfl; exact Hole.au; exact .head _; exact Take.au; rfl; rfl; omega; omega; intro O1 g1 cap1
        apply oas; rfl; rfl
        apply OL.nil
        with_reducible apply At.in_normal
        have hun := unseen_set hmS
        refine At.again ⟨(m, 0) :: (b, j + 1) :: r, S.set m true, out, ⟨O1, some ⟨g1, 0, none⟩, cap1⟩, ⟨Oz, qz, cz⟩⟩ ⟨?_, by simp [hSl], by simp only [List.length_cons]; omega, fun p hp => ?_⟩ (mu_new (by rw [hnx, hll]; exact hjl2) hmS (hnD m)) (by exact Sub.au) (fun w' hw' => ?_)
        · simp only
          have h5 := run_new (r := r) (out := out) hlj (by simpa using hmS)
          rw [Int.toNat_natCast] at h5
          rw [← h5]
          exact hrun
        · rcases List.mem_cons.1 hp with rfl | hp
          · exact ⟨by simp only; omega, Nat.zero_le _⟩
          · rcases List.mem_cons.1 hp with rfl | hp
            · exact ⟨hbl, by simp only; rw [hnx, hll]; omega⟩
            · exact hok p (.tail _ hp)
        · simp only [List.reverse_cons, cat_append, List.length_cons] at hw' ⊢
          exact hw'.thin (.any (fun k hk => by rw [show k = bk from hk]; first | exact hbk | exact AllLe.mk hc) Thin.same)
end Go.Proofs.Ytehelljmaiophaa.ss

/- A grown row that a function of the library writes over in place (a sort, a compaction). General. No condition. -/
namespace Go.Eng
set_option linter.unusedVariables false
set_option linter.unusedSimpArgs false
open Go.RowKit Go.Sort
set_option linter.unusedVariables false
set_option linter.unusedSimpArgs false

theorem putCells_take {α : Type} [Inhabited α] (enc : α → Value) (d : Array α) (c : Array Value) (h : d.size ≤ c.size) : (putCells enc 0 d c).toList.take d.size = d.toList.map enc := by
  apply List.ext_getElem?
  intro j
  rw [List.getElem?_take, List.getElem?_map]
  by_cases hj : j < d.size
  · rw [if_pos hj, Array.getElem?_toList, Array.getElem?_toList]
    unfold putCells
    rw [Array.getElem?_mapIdx, Array.getElem?_eq_getElem (show j < c.size by omega), Array.getElem?_eq_getElem hj]
    simp only [Option.map_some]
    rw [if_pos ⟨Nat.zero_le _, by omega⟩, Nat.sub_zero, getElem!_pos d j hj]
  · rw [if_neg hj, Array.getElem?_toList, Array.getElem?_eq_none (by omega)]; rfl
theorem putRow_heap {α : Type} [Inhabited α] (enc : α → Value) (w : World) (n g : Nat) (d : Array α) (os : Array Obj) {cur : Array Value} {e : TypeId} {fr : Nat × Nat} (hg : w.heap[g]? = some (.cells cur e fr)) :
    (grow (putRow enc (Sort.ahead w n) g 0 d) os).heap[g]? = some (.cells (putCells enc 0 d cur) e fr) := by
  have hlt : g < w.heap.size := (Array.getElem?_eq_some_iff.1 hg).1
  show ((w.heap.modify g (onCells (putCells enc 0 d))) ++ os)[g]? = _
  rw [Array.getElem?_append_left (by simpa using hlt), Array.getElem?_modify, if_pos rfl, hg]
  rfl
theorem putRow_other {α : Type} [Inhabited α] (enc : α → Value) (w : World) (n g : Nat) (d : Array α) (os : Array Obj) {k : Nat} (hk : k < w.heap.size) (hne : k ≠ g) :
    (grow (putRow enc (Sort.ahead w n) g 0 d) os).heap[k]? = w.heap[k]? := by
  show ((w.heap.modify g (onCells (putCells enc 0 d))) ++ os)[k]? = _
  rw [Array.getElem?_append_left (by simpa using hk), Array.getElem?_modify, if_neg (fun e => hne e.symm)]
theorem putRow_size {α : Type} [Inhabited α] (enc : α → Value) (w : World) (n g : Nat) (d : Array α) (os : Array Obj) : w.heap.size ≤ (grow (putRow enc (Sort.ahead w n) g 0 d) os).heap.size := by
  show _ ≤ ((w.heap.modify g (onCells (putCells enc 0 d))) ++ os).size
  simp
theorem Cls.rowPut {α : Type} [Inhabited α] {enc : α → Value} {p : Nat} {H : List Eng.Item} {S : List World} {w w' : World} {base m cap g n : Nat} {O : Nat → Prop} {e : TypeId} {xs : List Value} {F : Eng.Item → List Eng.Item}
    (hh : Hole p H (row base O (some ⟨g, 0, none⟩) m cap e 1 xs) F) (h : Cls H S w) (d : Array α) (hd : d.size = m) {os : Array Obj} (hw : w' = grow (putRow enc (Sort.ahead w n) g 0 d) os) : Cls (F (row base O (some ⟨g, 0, none⟩) m cap e 1 (d.toList.map enc))) S w' := by
  subst hw
  obtain ⟨h1, h2⟩ := hh.eq
  rw [h2]
  have hi := h.holds _ (List.mem_of_getElem? h1)
  have hO : O g := hi.1 _ rfl
  rcases hi.2.2 with ⟨h3, _⟩ | ⟨g', cap', cur, h3, hb, hg, h4, h5, h6, h7⟩
  · cases h3
  simp only [Value.slice.injEq, Option.some.injEq, Addr.mk.injEq] at h3
  obtain ⟨⟨rfl, _⟩, _, rfl⟩ := h3
  refine h.turn p h1 ⟨rfl, rfl, rfl, putRow_size _ _ _ _ _ _, fun k hk hno => putRow_other _ _ _ _ _ _ hk fun e => hno (by subst e; exact ⟨hb, hO⟩)⟩ ?_ (fun k hk => ⟨.inl hk, Nat.lt_of_lt_of_le (h.lt _ (List.mem_of_getElem? h1) k hk) (putRow_size _ _ _ _ _ _)⟩) (fun k hk => hk)
  refine ⟨fun a ha => by cases ha; exact hO, by simp [hd], .inr ⟨g, cap, _, rfl, hb, putRow_heap enc w n g d os hg, h4, h5, ?_, ?_⟩⟩
  · simp only [putCells, Array.size_mapIdx]; exact h6
  · rw [Nat.mul_one, ← hd]
    exact putCells_take enc d cur (by omega)
/-- what the library's contracts on rows ask -/
theorem row_holds {α : Type} [Inhabited α] {enc : α → Value} {w : World} {base m cap g : Nat} {O : Nat → Prop} {e : TypeId} {d : Array α} (h : (row base O (some ⟨g, 0, none⟩) m cap e 1 (d.toList.map enc)).holds w) : Holds enc w g 0 d ∧ g < w.heap.size := by
  rcases h.2.2 with ⟨h3, _⟩ | ⟨g', cap', cur, h3, hb, hg, h4, h5, h6, h7⟩
  · cases h3
  simp only [Value.slice.injEq, Option.some.injEq, Addr.mk.injEq] at h3
  obtain ⟨⟨rfl, _⟩, _, rfl⟩ := h3
  refine ⟨fun j hj => ⟨?_, ?_⟩, (Array.getElem?_eq_some_iff.1 hg).1⟩
  · rw [Nat.zero_add]
    refine row_cell h ?_
    rw [List.getElem?_map, Array.getElem?_toList, Array.getElem?_eq_getElem hj, getElem!_pos d j hj]; rfl
  · simp [World.frozen?, hg]
end Go.Eng

/-
  DERIVED: THE SHELF's CONTRACTS AT THIS DUMP, IN PLAIN WORDS (tools/lay-plain.mjs out of 'YtehelljmaiophaaShelfD.lean', which tools/lay-shelf.mjs wrote): THE SAME DECLARATIONS UNDER THE SAME NAMES: 'import', 'namespace', 'open', 'def', 'theorem' AND NOTHING ELSE: no command of the shelf's: FOR A HAND-IN. Each laying: the table of numbers ('.._ren') and one theorem, a field a fact of the dump's own or the kernel's comparison; each contract: ONE APPLICATION.
-/
namespace Go.Proofs
set_option linter.unusedVariables false
set_option linter.unusedSimpArgs false
open Go.Shelf
def Try.lays189_ren : Go.Shelf.Ren := ⟨fun | 189 => 85 | 125 => 126 | 257 => 125 | 128 => 159 | 129 => 160 | 294 => 151 | 295 => 152 | 296 => 153 | 297 => 154 | 298 => 155 | 299 => 156 | 216 => 134 | 300 => 157 | 301 => 158 | 328 => 174 | 329 => 175 | 330 => 176 | 331 => 177 | 332 => 178 | 215 => 162 | 343 => 186 | n => n, fun | 28 => 35 | 3 => 3 | 46 => 181 | 0 => 0 | 51 => 217 | 53 => 172 | 4 => 4 | 183 => 212 | 182 => 211 | 131 => 147 | 5 => 5 | 9 => 9 | 218 => 227 | 222 => 231 | 228 => 236 | 229 => 237 | n => n, fun | n => n⟩
theorem Try.lays189 : Go.Proofs.Lays.n189 Try.prog Try.lays189_ren := {
  mixed := by kernel_rfl
  f125 := Try.func126.trans (congrArg some (by kernel_rfl))
  f128 := Try.func159.trans (congrArg some (by kernel_rfl))
  f129 := Try.func160.trans (congrArg some (by kernel_rfl))
  f189 := Try.func85.trans (congrArg some (by kernel_rfl))
  f215 := Try.func162.trans (congrArg some (by kernel_rfl))
  f216 := Try.func134.trans (congrArg some (by kernel_rfl))
  f257 := Try.func125.trans (congrArg some (by kernel_rfl))
  f294 := Try.func151.trans (congrArg some (by kernel_rfl))
  f295 := Try.func152.trans (congrArg some (by kernel_rfl))
  f296 := Try.func153.trans (congrArg some (by kernel_rfl))
  f297 := Try.func154.trans (congrArg some (by kernel_rfl))
  f298 := Try.func155.trans (congrArg some (by kernel_rfl))
  f299 := Try.func156.trans (congrArg some (by kernel_rfl))
  f300 := Try.func157.trans (congrArg some (by kernel_rfl))
  f301 := Try.func158.trans (congrArg some (by kernel_rfl))
  f328 := Try.func174.trans (congrArg some (by kernel_rfl))
  f329 := Try.func175.trans (congrArg some (by kernel_rfl))
  f330 := Try.func176.trans (congrArg some (by kernel_rfl))
  f331 := Try.func177.trans (congrArg some (by kernel_rfl))
  f332 := Try.func178.trans (congrArg some (by kernel_rfl))
  f343 := Try.func186.trans (congrArg some (by kernel_rfl))
  t0 := Try.underlying0
  a0 := Try.isAgg0
  z0 := Try.sizeOf0
  v0 := Try.zeroValue0
  t3 := Try.underlying3
  a3 := Try.isAgg3
  z3 := Try.sizeOf3
  v3 := Try.zeroValue3
  t4 := Try.underlying4
  a4 := Try.isAgg4
  z4 := Try.sizeOf4
  v4 := Try.zeroValue4
  t5 := Try.underlying5
  a5 := Try.isAgg5
  z5 := Try.sizeOf5
  v5 := Try.zeroValue5
  t9 := Try.underlying9
  a9 := Try.isAgg9
  z9 := Try.sizeOf9
  v9 := Try.zeroValue9
  t28 := Try.underlying35
  a28 := Try.isAgg35
  z28 := Try.sizeOf35
  v28 := Try.zeroValue35
  t46 := Try.underlying181
  a46 := Try.isAgg181
  z46 := Try.sizeOf181
  v46 := Try.zeroValue181
  t51 := Try.underlying217
  a51 := Try.isAgg217
  z51 := Try.sizeOf217
  v51 := Try.zeroValue217
  t53 := Try.underlying172
  a53 := Try.isAgg172
  z53 := Try.sizeOf172
  v53 := Try.zeroValue172
  t131 := Try.underlying147
  a131 := Try.isAgg147
  z131 := Try.sizeOf147
  v131 := Try.zeroValue147
  t182 := Try.underlying211
  a182 := Try.isAgg211
  z182 := Try.sizeOf211
  v182 := Try.zeroValue211
  t183 := Try.underlying212
  a183 := Try.isAgg212
  z183 := Try.sizeOf212
  v183 := Try.zeroValue212
  t218 := Try.underlying227
  a218 := Try.isAgg227
  z218 := Try.sizeOf227
  v218 := Try.zeroValue227
  t222 := Try.underlying231
  a222 := Try.isAgg231
  z222 := Try.sizeOf231
  v222 := Try.zeroValue231
  t228 := Try.underlying236
  a228 := Try.isAgg236
  z228 := Try.sizeOf236
  v228 := Try.zeroValue236
  t229 := Try.underlying237
  a229 := Try.isAgg237
  z229 := Try.sizeOf237
  v229 := Try.zeroValue237 }
def Try.lays112_ren : Go.Shelf.Ren := ⟨fun | 112 => 88 | n => n, fun | 28 => 35 | 3 => 3 | 4 => 4 | 0 => 0 | n => n, fun | n => n⟩
theorem Try.lays112 : Go.Proofs.Lays.n112 Try.prog Try.lays112_ren := {
  mixed := by kernel_rfl
  f112 := Try.func88.trans (congrArg some (by kernel_rfl))
  t0 := Try.underlying0
  a0 := Try.isAgg0
  z0 := Try.sizeOf0
  v0 := Try.zeroValue0
  t3 := Try.underlying3
  a3 := Try.isAgg3
  z3 := Try.sizeOf3
  v3 := Try.zeroValue3
  t4 := Try.underlying4
  a4 := Try.isAgg4
  z4 := Try.sizeOf4
  v4 := Try.zeroValue4
  t28 := Try.underlying35
  a28 := Try.isAgg35
  z28 := Try.sizeOf35
  v28 := Try.zeroValue35 }
end Go.Proofs

/- The walks of cfg's Order and Reachable. Conditions: none. -/
namespace Go.Eng
set_option linter.unusedVariables false
set_option linter.unusedSimpArgs false
open Go.RowKit
theorem Cls.plus {H : List Eng.Item} {S : List World} {w2 w3 : World} {i : Eng.Item} (h : Cls H S w2) (hc : Cls [i] [w2] w3) (ho : ∀ k, i.own k → w2.heap.size ≤ k) : Cls (i :: H) S w3 :=
  h.add (hc.toExt (.head _) (fun k hk => NotOwned.any (fun hm => by have := ho k hm; omega) .nil)) i (hc.holds _ (.head _)) (fun k hk => ⟨ho k hk, hc.lt _ (.head _) k hk⟩)
theorem Cls.row_base {H : List Eng.Item} {S : List World} {w : World} {B B' m cap size : Nat} {O : Nat → Prop} {q : Option Addr} {e : TypeId} {xs : List Value} (h : Cls (row B O q m cap e size xs :: H) S w) (hB : B' ≤ B) : Cls (row B' (fun k => B ≤ k ∧ O k) q m cap e size xs :: H) S w := by
  have hd := List.pairwise_cons.1 h.dj
  refine ⟨fun i hi => ?_, fun i hi => ?_, .cons (fun j hj k hk => hd.1 j hj k hk.2) hd.2, fun s hs => (h.kp s hs).mono fun k _ ⟨j, hj, hjk⟩ => ?_⟩
  · cases hi with
    | head =>
      have h0 : (row B O q m cap e size xs).holds w := h.holds _ (.head _)
      refine ⟨fun a ha => ⟨?_, h0.1 a ha⟩, h0.2.1, ?_⟩
      · rcases h0.2.2 with ⟨h3, _⟩ | ⟨g, cap', cur, h3, hb, _⟩
        · rw [ha] at h3; cases h3
        · rw [ha] at h3
          simp only [Value.slice.injEq, Option.some.injEq] at h3
          rw [h3.1]; exact hb
      · rcases h0.2.2 with h3 | ⟨g, cap', cur, h3, hb, h4⟩
        · exact .inl h3
        · exact .inr ⟨g, cap', cur, h3, by omega, h4⟩
    | tail _ hi => exact h.holds _ (.tail _ hi)
  · cases hi with
    | head => exact fun k hk => h.lt (row B O q m cap e size xs) (.head _) k hk.2
    | tail _ hi => exact h.lt _ (.tail _ hi)
  · cases hj with
    | head =>
      have hjk' : B ≤ k ∧ O k := hjk
      exact ⟨_, .head _, by omega, hjk'⟩
    | tail _ hj => exact ⟨_, .tail _ hj, hjk⟩
end Go.Eng
namespace Go.Ss
set_option linter.unusedVariables false
set_option linter.unusedSimpArgs false
open Go.Eng Go.RowKit
set_option linter.unusedVariables false
set_option linter.unusedSimpArgs false
def isrt (l : List Int) : List Int := l.mergeSort fun x y => decide (x ≤ y)
theorem isrt_perm (l : List Int) : (isrt l).Perm l := List.mergeSort_perm l _
theorem isrt_len (l : List Int) : (isrt l).length = l.length := (isrt_perm l).length_eq
theorem isrt_mem {l : List Int} {n : Int} : n ∈ isrt l ↔ n ∈ l := (isrt_perm l).mem_iff
theorem isrt_sorted (l : List Int) : (isrt l).Pairwise (· ≤ ·) := by
  have := List.pairwise_mergeSort (le := fun x y : Int => decide (x ≤ y)) (fun a b c h1 h2 => by simp at *; omega) (fun a b => by simp; omega) l
  exact this.imp fun h => by simpa using h
end Go.Ss
namespace Go.Proofs.Ytehelljmaiophaa.ss
set_option linter.unusedVariables false
set_option linter.unusedSimpArgs false
open Go.Eng Go.RowKit Go.Ss Go.Shelf Go.Sort
set_option linter.unusedVariables false
set_option linter.unusedSimpArgs false
set_option maxRecDepth 100000
theorem SortI_calls {p : Nat} {H : List Eng.Item} {S : List World} {w : World} {base cap : Nat} {O : Nat → Prop} {q : Option Addr} {xs : List Int} {F : Eng.Item → List Eng.Item}
    (hh : Hole p H (Eng.row base O q xs.length cap 3 1 (ints xs)) F) (h : Cls H S w) (hlen : xs.length < 4611686018427387904) :
    Calls Try.prog 85 #[.slice q xs.length cap] w fun e w' => e = .returned (.tuple #[]) ∧ Cls (F (Eng.row base O q xs.length cap 3 1 (ints (isrt xs)))) S w' := by
  by_cases h0 : xs.length = 0
  · obtain rfl : xs = [] := List.eq_nil_of_length_eq_zero h0
    refine (Any.slices_Sort_int_none Try.lays189 q cap w).mono fun e w' he => ⟨he.1, ?_⟩
    rw [he.2]
    have e2 : isrt [] = [] := by simp [isrt]
    rw [e2, hh.eq.2, set_same hh.eq.1]
    exact h
  · have hi := h.holds _ (List.mem_of_getElem? hh.eq.1)
    obtain ⟨g, rfl⟩ : ∃ g, q = some ⟨g, 0, none⟩ := by
      rcases hi.2.2 with ⟨h3, h4⟩ | ⟨g', cap', cur, h3, _⟩
      · omega
      · exact ⟨g', by simp only [Value.slice.injEq] at h3; exact h3.1⟩
    obtain ⟨h1, h2⟩ := row_holds (enc := Value.int .i64) (d := xs.toArray) hi
    have hc := Any.slices_Sort_int Try.lays189 g 0 cap xs w h1 h2 hlen
    refine hc.mono fun e w' he => ⟨he.1, ?_⟩
    obtain ⟨n, os, hw⟩ := he.2
    have hp := Cls.rowPut hh h (isrt xs).toArray (by simp [isrt_len]) hw
    exact hp
theorem RevI_calls {p : Nat} {H : List Eng.Item} {S : List World} {w : World} {base cap : Nat} {O : Nat → Prop} {q : Option Addr} {xs : List Int} {F : Eng.Item → List Eng.Item}
    (hh : Hole p H (Eng.row base O q xs.length cap 3 1 (ints xs)) F) (h : Cls H S w) (hlen : xs.length ≤ 9223372036854775807) :
    Calls Try.prog 88 #[.slice q xs.length cap] w fun e w' => e = .returned (.tuple #[]) ∧ Cls (F (Eng.row base O q xs.length cap 3 1 (ints xs.reverse))) S w' := by
  by_cases h0 : xs.length = 0
  · obtain rfl : xs = [] := List.eq_nil_of_length_eq_zero h0
    refine (Any.slices_Reverse_int_empty Try.lays112 q cap w).mono fun e w' he => ⟨he.1, ?_⟩
    rw [he.2, List.reverse_nil, hh.eq.2, set_same hh.eq.1]
    exact h
  · have hi := h.holds _ (List.mem_of_getElem? hh.eq.1)
    obtain ⟨g, rfl⟩ : ∃ g, q = some ⟨g, 0, none⟩ := by
      rcases hi.2.2 with ⟨h3, h4⟩ | ⟨g', cap', cur, h3, _⟩
      · omega
      · exact ⟨g', by simp only [Value.slice.injEq] at h3; exact h3.1⟩
    obtain ⟨h1, h2⟩ := row_holds (enc := Value.int .i64) (d := xs.toArray) hi
    have hc := Any.slices_Reverse_int Try.lays112 g 0 cap xs w h1 hlen
    refine hc.mono fun e w' he => ⟨he.1, ?_⟩
    obtain ⟨n, hw⟩ := he.2
    have hw2 : w' = grow (putRow (Value.int .i64) (Sort.ahead w n) g 0 xs.reverse.toArray) #[] := by rw [hw]; unfold grow; rw [Array.append_empty]
    have hp := Cls.rowPut hh h xs.reverse.toArray (by simp) hw2
    exact hp
theorem Order_calls (fn : Go.Ss.Fn) (y : FnY) (w : World) (hfn : FnOk w (low w) fn y) :
    Calls Try.prog 38 [.agg (fnC fn y).toArray].toArray w fun e w' => (funcE fn ≠ 0 ∧ e = .returned (.tuple #[.slice none 0 0, .int .i64 (funcE fn)]) ∧ Ext w w') ∨ (funcE fn = 0 ∧ ∃ (O : Nat → Prop) (q : Option Addr) (c : Nat), e = .returned (.tuple #[.slice q (visC (graphB fn.blocks) 0 (List.replicate fn.blocks.length false, [])).2.reverse.length c, .int .i64 0]) ∧ Cls [row w.heap.size O q (visC (graphB fn.blocks) 0 (List.replicate fn.blocks.length false, [])).2.reverse.length c 3 1 (ints (visC (graphB fn.blocks) 0 (List.replicate fn.blocks.length false, [])).2.reverse)] [w] w') := by
  have hfn0 := hfn
  obtain ⟨es, hes, he⟩ := hfn.b
  obtain ⟨nm, bs⟩ := fn
  obtain ⟨q, cap⟩ := y
  have hbl := hfn.bl
  simp only at hes he hbl ⊢
  have hbl2 : bs.length = es.length := by rw [← hes, List.length_map]
  refine enter Try.func38 rfl Try.ntmps38 rfl (Cls.start w) ?_
  (simp only [argEnv, Nat.zero_add, Nat.reduceAdd])
  simp only [fnC]
  rw [hbl2]
  apply W.sr
  apply OL.box; rfl; rfl; exact CellsL.agg; (intro bk hbk; simp only [AllLe, and_true] at hbk)
  apply oas; rfl; rfl
  apply oas; rfl; rfl
  apply OL.nx
  apply W.seq
  apply W.sr
  apply oop; rfl; apply Pev.load_blkA; rfl; exact yes; exact .head _; rfl; exact Take.au
  revert bk
  intro bF hbF
  have hbF1 : w.heap.size ≤ bF := by first | exact hbF | exact hbF.1
  have hC : ∀ w2, Cls [blk bF 24 [.int .i64 nm, .slice q es.length cap]] [w] w2 → Calls Try.prog 30 [.agg #[.int .i64 nm, .slice q es.length cap]].toArray w2 fun e w' => e = .returned (.int .i64 (funcE ⟨nm, bs⟩)) ∧ Ext w2 w' := fun w2 hw2 => by
    have h1 := CheckFunc_calls ⟨nm, bs⟩ ⟨q, cap⟩ w2 (fnR.mono (hw2.up (.head _)) (fnR.stab (hw2.same (.head _) (fun k hk => by exact NotOwned.au)) hfn0))
    simp only [fnC] at h1
    rw [hbl2] at h1
    exact h1
  (((first | (with_reducible apply OL.op) | (with_reducible apply QL.op)); (exact Guard.au); rfl; rfl); (exact Pev.call (v := .int .i64 (funcE ⟨nm, bs⟩)) rfl (by exact Args.au) (fun _ w2 hw2 => (hC w2 hw2).mono (fun e w3 h => ⟨h.1, hw2.ext h.2⟩))))
  apply oas; rfl; rfl
  apply OL.nsr
  apply omv; rfl; rfl
  apply obn; rfl; rfl; rfl; apply Bin.neq
  apply OL.nx
  (refine W.cnd (fun hne => ?_) (fun hne => ?_)) <;> (try (exfalso; first | omega | exact hne trivial | contradiction))
  · apply W.sr
    apply omv; rfl; rfl
    apply oas; rfl; rfl
    apply oas; rfl; rfl
    apply OL.nx
    refine W.rt ?_
    ((with_reducible apply At.fin2); rfl; rfl; rfl; intro w' hw')
    exact .inl ⟨hne, rfl, by (exact hw'.fr)⟩
  have hf0 : funcE ⟨nm, bs⟩ = 0 := by simpa using hne
  obtain ⟨h0, h128, hs0⟩ := func_zero hf0
  simp only at h0 h128 hs0
  have hEE : ∀ p ∈ es, (∀ e ∈ p.1.term.to_, 1 ≤ e.block ∧ e.block < (es.length : Int)) ∧ p.1.term.to_.length ≤ 257 := fun p hp => by
    have hpb : p.1 ∈ bs := by rw [← hes]; exact List.mem_map_of_mem hp
    refine ⟨fun e hpe => ?_, to_len hs0 hpb⟩
    have := shape_edges hs0 p.1 hpb e hpe
    omega
  obtain ⟨st, hst⟩ : ∃ st, visC (graphB bs) 0 (List.replicate es.length false, []) = st := ⟨_, rfl⟩
  have hcn : st.2.length ≤ es.length := by
    have h1 := visC_cnt (G := graphB bs) (k := 0) (st := (List.replicate es.length false, [])) (by simp [show 0 < es.length by omega])
    have h2 := unseen_le (List.replicate es.length false)
    rw [hst] at h1
    simp at h1 h2
    omega
  rw [hst]
  apply W.sk
  apply W.sr
  apply OL.alloc; rfl; rfl; exact CellsL.one rfl; (intro bk hbk; simp only [AllLe, and_true] at hbk)
  apply OL.nsr
  apply oop; rfl; apply Pev.load_blkA; rfl; exact yes; exact .tail _ (.head _); rfl; exact Take.au
  apply oop; rfl; apply Pev.makeFunc; exact Args.au; exact Args.au
  revert bk
  intro b5 hb5
  have hb51 : w.heap.size ≤ b5 := by first | exact hb5 | exact hb5.1
  have hS := fun w2 => search_calls w es q cap nm he (by omega) (by omega) hEE b5 w.heap.size hb51 (Nat.le_refl _) [w] (.head _) (fun s hs => by rw [List.mem_singleton.1 hs]; exact Nat.le_refl _) ⟨w, .head _, Nat.le_refl _⟩ (fun _ => False) none 0 [blk bF 24 [.int .i64 nm, .slice q es.length cap]] w2 (fun k hk => NotOwned.blk (by omega) NotOwned.nil)
  rw [hes, hst] at hS
  refine OL.callE (α := GR) (fun _ => .tuple #[]) (fun _ => True) (fun g => Cls [blk b5 35 [.slice g.q st.2.length g.c], row w.heap.size g.O g.q st.2.length g.c 3 1 (ints st.2), blk bF 24 [.int .i64 nm, .slice q es.length cap]] [w]) rfl rfl (by exact Args.au) (fun w2 hw2 => (hS w2 (hw2.row_nil w.heap.size 3 1).flip).mono fun e w3 ⟨O', qo', co', h1, h2⟩ => ⟨⟨O', qo', co'⟩, h1, trivial, h2⟩) ?_
  rintro ⟨O1, q1, c1⟩ _
  simp only
  apply OL.nsr
  apply old; rfl; rfl; exact .head _; rfl; rfl
  refine OL.callE (α := Unit) (fun _ => .tuple #[]) (fun _ => True) (fun _ => Cls [blk b5 35 [.slice q1 st.2.length c1], row w.heap.size O1 q1 st.2.length c1 3 1 (ints st.2.reverse), blk bF 24 [.int .i64 nm, .slice q es.length cap]] [w]) rfl rfl (by exact Args.au) (fun w2 hw2 => (RevI_calls (xs := st.2) (.s .z) hw2 (by omega)).mono fun e w3 ⟨h1, h2⟩ => ⟨(), h1, trivial, h2⟩) ?_
  rintro _ _
  apply OL.nsr
  apply old; rfl; rfl; exact .head _; rfl; rfl
  apply oas; rfl; rfl
  apply oas; rfl; rfl
  apply OL.nx
  apply W.ret
  ((with_reducible apply At.fin2); rfl; rfl; rfl; intro w' hw')
  refine .inr ⟨hf0, O1, q1, c1, by rw [List.length_reverse], ?_⟩
  rw [List.length_reverse]
  exact hw'.thin (.any (fun k hk => by rw [show k = b5 from hk]; exact ⟨hb51, trivial⟩) (.keep (.any (fun k hk => by rw [show k = bF from hk]; exact ⟨hbF1, trivial⟩) Thin.nil)))
theorem Reachable_calls (fn : Go.Ss.Fn) (y : FnY) (w : World) (hfn : FnOk w (low w) fn y) :
    Calls Try.prog 37 [.agg (fnC fn y).toArray].toArray w fun e w' => (funcE fn ≠ 0 ∧ e = .returned (.tuple #[.slice none 0 0, .int .i64 (funcE fn)]) ∧ Ext w w') ∨ (funcE fn = 0 ∧ ∃ (O : Nat → Prop) (q : Option Addr) (c : Nat), e = .returned (.tuple #[.slice q (isrt (visC (graphB fn.blocks) 0 (List.replicate fn.blocks.length false, [])).2.reverse).length c, .int .i64 0]) ∧ Cls [row w.heap.size O q (isrt (visC (graphB fn.blocks) 0 (List.replicate fn.blocks.length false, [])).2.reverse).length c 3 1 (ints (isrt (visC (graphB fn.blocks) 0 (List.replicate fn.blocks.length false, [])).2.reverse))] [w] w') := by
  have hfn0 := hfn
  obtain ⟨nm, bs⟩ := fn
  obtain ⟨q, cap⟩ := y
  simp only
  obtain ⟨l, hl⟩ : ∃ l, (visC (graphB bs) 0 (List.replicate bs.length false, [])).2.reverse = l := ⟨_, rfl⟩
  have hll : funcE ⟨nm, bs⟩ = 0 → l.length ≤ 128 := fun hf => by
    obtain ⟨h0, h128, _⟩ := func_zero hf
    simp only at h0 h128
    have h1 := visC_cnt (G := graphB bs) (k := 0) (st := (List.replicate bs.length false, [])) (by simp [h0])
    have h2 := unseen_le (List.replicate bs.length false)
    rw [← hl, List.length_reverse]
    simp at h1 h2
    omega
  rw [hl]
  have hO := fun w2 (S : List World) (H : List Eng.Item) (hw2 : Cls H S w2) (hs : w ∈ S) (hno : ∀ k, k < w.heap.size → NotOwned H k) => Order_calls ⟨nm, bs⟩ ⟨q, cap⟩ w2 (fnR.mono (hw2.up hs) (fnR.stab (hw2.same hs hno) hfn0))
  simp only [fnC, hl] at hO
  refine enter Try.func37 rfl Try.ntmps37 rfl (Cls.start w) ?_
  (simp only [argEnv, Nat.zero_add, Nat.reduceAdd])
  simp only [fnC]
  apply W.sr
  apply OL.box; rfl; rfl; exact CellsL.agg; (intro bk hbk; simp only [AllLe, and_true] at hbk)
  apply oas; rfl; rfl
  apply oas; rfl; rfl
  apply OL.nsr
  apply oop; rfl; apply Pev.load_blkA; rfl; exact yes; exact .head _; rfl; exact Take.au
  revert bk
  intro bF hbF
  have hbF1 : w.heap.size ≤ bF := by first | exact hbF | exact hbF.1
  by_cases hf : funcE ⟨nm, bs⟩ = 0
  · refine OL.callE (α := GR × Nat) (fun z => .tuple #[.slice z.1.q l.length z.1.c, .int .i64 0]) (fun z => w.heap.size ≤ z.2) (fun z => Cls [row z.2 z.1.O z.1.q l.length z.1.c 3 1 (ints l), blk bF 24 [.int .i64 nm, .slice q bs.length cap]] [w]) rfl rfl (by exact Args.au) (fun w2 hw2 => (hO w2 _ _ hw2 (by exact mau) (fun k hk => by exact NotOwned.au)).mono fun e w3 h => ?_) ?_
    · rcases h with ⟨h1, _⟩ | ⟨_, O', q', c', h1, h2⟩
      · exact absurd hf h1
      · exact ⟨(⟨O', q', c'⟩, w2.heap.size), h1, (hw2.kp w (by exact mau)).size, hw2.plus h2 (fun k hk => hk.1)⟩
    rintro ⟨⟨O1, q1, c1⟩, B⟩ hB
    simp only at hB ⊢
    apply omv; rfl; rfl
    apply oex; rfl; rfl; rfl
    apply oex; rfl; rfl; rfl
    apply oas; rfl; rfl
    apply oas; rfl; rfl
    apply OL.nsr
    apply omv; rfl; rfl
    refine OL.callE (α := Unit) (fun _ => .tuple #[]) (fun _ => True) (fun _ => Cls [row B O1 q1 l.length c1 3 1 (ints (isrt l)), blk bF 24 [.int .i64 nm, .slice q bs.length cap]] [w]) rfl rfl (by exact Args.au) (fun w2 hw2 => (SortI_calls (xs := l) .z hw2 (by have := hll hf; omega)).mono fun e w3 ⟨h1, h2⟩ => ⟨(), h1, trivial, h2⟩) ?_
    rintro _ _
    apply OL.nsr
    apply omv; rfl; rfl
    apply omv; rfl; rfl
    apply oas; rfl; rfl
    apply oas; rfl; rfl
    apply OL.nx
    apply W.ret
    ((with_reducible apply At.fin2); rfl; rfl; rfl; intro w' hw')
    refine .inr ⟨hf, fun k => B ≤ k ∧ O1 k, q1, c1, by rw [isrt_len], ?_⟩
    rw [isrt_len]
    exact (hw'.row_base hB).thin (.keep (.any (fun k hk => by rw [show k = bF from hk]; exact ⟨hbF1, trivial⟩) Thin.nil))
  · refine OL.callE (α := Unit) (fun z => .tuple #[.slice none 0 0, .int .i64 (funcE ⟨nm, bs⟩)]) (fun z => True) (fun z => Cls [blk bF 24 [.int .i64 nm, .slice q bs.length cap]] [w]) rfl rfl (by exact Args.au) (fun w2 hw2 => (hO w2 _ _ hw2 (by exact mau) (fun k hk => by exact NotOwned.au)).mono fun e w3 h => ?_) ?_
    · rcases h with ⟨_, h1, h2⟩ | ⟨h1, _⟩
      · exact ⟨(), h1, trivial, hw2.ext h2⟩
      · exact absurd h1 hf
    rintro _ _
    apply omv; rfl; rfl
    apply oex; rfl; rfl; rfl
    apply oex; rfl; rfl; rfl
    apply oas; rfl; rfl
    apply oas; rfl; rfl
    apply OL.nsr
    apply omv; rfl; rfl
    refine OL.callE (α := Unit) (fun _ => .tuple #[]) (fun _ => True) (fun _ => Cls [blk bF 24 [.int .i64 nm, .slice q bs.length cap]] [w]) rfl rfl (by exact Args.au) (fun w2 hw2 => (Any.slices_Sort_int_none Try.lays189 none 0 w2).mono fun e w3 h => ⟨(), h.1, trivial, by rw [h.2]; exact hw2⟩) ?_
    rintro _ _
    apply OL.nsr
    apply omv; rfl; rfl
    apply omv; rfl; rfl
    apply oas; rfl; rfl
    apply oas; rfl; rfl
    apply OL.nx
    apply W.ret
    ((with_reducible apply At.fin2); rfl; rfl; rfl; intro w' hw')
    exact .inl ⟨hf, rfl, by (exact hw'.fr)⟩
end Go.Proofs.Ytehelljmaiophaa.ss

/- The walks of dom's meet and dominates. Conditions: none. -/
namespace Go.Ss
set_option linter.unusedVariables false
set_option linter.unusedSimpArgs false
open Go.Eng Go.RowKit
set_option linter.unusedVariables false
set_option linter.unusedSimpArgs false
def tabI (n : Nat) (g : Nat → Int) : List Int := (List.range n).map g
theorem tabI_length (n : Nat) (g : Nat → Int) : (tabI n g).length = n := by simp [tabI]
theorem tabI_get {n : Nat} {g : Nat → Int} {v : Nat} (h : v < n) : (tabI n g)[v]? = some (g v) := by simp [tabI, h]
theorem tabI_set {n : Nat} {g : Nat → Int} {i : Nat} {b : Int} : (tabI n g).set i b = tabI n fun v => if v = i then b else g v := by
  apply List.ext_getElem?
  intro v
  rw [List.getElem?_set]
  by_cases h : v < n
  · rw [tabI_get h, tabI_get h]
    by_cases e : i = v
    · subst e
      rw [if_pos rfl, if_pos (by rw [tabI_length]; exact h), if_pos rfl]
    · rw [if_neg e, if_neg (fun x => e x.symm)]
  · rw [List.getElem?_eq_none (l := tabI n _) (by rw [tabI_length]; omega), List.getElem?_eq_none (l := tabI n _) (by rw [tabI_length]; omega)]
    split
    · rw [if_neg (by rw [tabI_length]; omega)]
    · rfl
theorem tabI_congr {n : Nat} {g h : Nat → Int} (e : ∀ v, v < n → g v = h v) : tabI n g = tabI n h := by
  unfold tabI
  exact List.map_congr_left fun v hv => e v (List.mem_range.1 hv)
def ovI : Option Nat → Int
  | none => -1
  | some p => (p : Int)
theorem plc0_eq {G : List (List Int)} (hG : ∀ l ∈ G, ∀ e ∈ l, 0 ≤ e ∧ e < (G.length : Int)) (h0 : 0 < G.length) {k : Nat} (h : Rc G (-1) k) : plc0 G k = (plN G k : Int) := by
  have := (plc0_iff hG h0 k).2 h
  unfold plN
  omega
theorem An.step_max {G : List (List Int)} {o : Nat → Option Nat} {pl : Nat → Nat} (hw : Wf G pl o) {a b p : Nat} (ho : o a = some p) (hab : pl b < pl a) (d : Nat) : (An o d a ∧ An o d b) ↔ (An o d p ∧ An o d b) := by
  constructor
  · rintro ⟨h1, h2⟩
    refine ⟨?_, h2⟩
    cases h1 with
    | refl => have := h2.le hw; omega
    | up h3 r =>
      rw [ho] at h3
      obtain rfl := Option.some.inj h3
      exact r
  · rintro ⟨h1, h2⟩
    exact ⟨.up ho h1, h2⟩
theorem Pr.over {G : List (List Int)} {o : Nat → Option Nat} {pl : Nat → Nat} (hw : Wf G pl o) {a : Nat} (h : Pr G o a) (h0 : a ≠ 0) : ∃ p, o a = some p ∧ Pr G o p ∧ pl p < pl a := by
  rcases h.2 with e | e
  · exact absurd e h0
  · obtain ⟨p, hp⟩ := Option.isSome_iff_exists.1 e
    have h1 := hw.wf a p hp
    exact ⟨p, hp, ⟨h1.2.1, h1.2.2.2⟩, h1.2.2.1⟩
end Go.Ss
namespace Go.Proofs.Ytehelljmaiophaa.ss
set_option linter.unusedVariables false
set_option linter.unusedSimpArgs false
set_option maxRecDepth 100000
open Go.Eng Go.RowKit Go.Ss
set_option linter.unusedVariables false
set_option linter.unusedSimpArgs false
theorem meet_calls (G : List (List Int)) (hG : ∀ l ∈ G, ∀ e ∈ l, 0 ≤ e ∧ e < (G.length : Int)) (h0 : 0 < G.length) (o : Nat → Option Nat) (hw : Wf G (plN G) o) (qO qP : Option Addr) (cO cP a b : Nat) (w : World) (hO : IntsO w (low w) (tabI G.length fun k => ovI (o k)) qO) (hP : IntsO w (low w) (tabI G.length (plc0 G)) qP) (hlen : G.length ≤ 1000000)
    (ha : Pr G o a) (hb : Pr G o b) :
    Calls Try.prog 94 [.agg #[.slice qO G.length cO, .slice qP G.length cP], .int .i64 (a : Int), .int .i64 (b : Int)].toArray w fun e w' => ∃ c : Nat, e = .returned (.int .i64 (c : Int)) ∧ Pr G o c ∧ (∀ d, An o d c ↔ An o d a ∧ An o d b) ∧ Ext w w' := by
  have hord := ordOk hG h0
  refine enter Try.func94 rfl Try.ntmps94 rfl (Cls.start w) ?_
  (simp only [argEnv, Nat.zero_add, Nat.reduceAdd])
  apply W.sr
  apply OL.box; rfl; rfl; exact CellsL.agg; (intro bk hbk; simp only [AllLe, and_true] at hbk)
  apply oas; rfl; rfl
  apply OL.nx
  apply W.sb
  revert bk
  intro b3 hb3
  have hb31 : w.heap.size ≤ b3 := by first | exact hb3 | exact hb3.1
  refine W.loop (G := Nat × Nat) (fun z => Pr G o z.1 ∧ Pr G o z.2 ∧ ∀ d, (An o d z.1 ∧ An o d z.2) ↔ (An o d a ∧ An o d b)) (fun z => plN G z.1 + plN G z.2)
    (fun z => [(1, true, .int .i64 (z.1 : Int)), (2, true, .int .i64 (z.2 : Int)), (3, true, .pointer (some ⟨b3, 0, none⟩))])
    (fun _ => Cls [blk b3 135 [.slice qO G.length cO, .slice qP G.length cP]] [w]) (a, b) ⟨ha, hb, fun d => Iff.rfl⟩ (by exact Sub.au) (fun w' hw' => hw') ?_
  rintro ⟨x, y⟩ ⟨hx, hy, hxy⟩
  simp only at hx hy hxy ⊢
  apply W.seq
  apply W.sr
  apply omv; rfl; rfl
  apply omv; rfl; rfl
  apply obn; rfl; rfl; rfl; apply Bin.neq
  apply OL.nx
  refine W.cond rfl (fun h1 => ?_) (fun h1 => ?_)
  · have hne : x ≠ y := fun e => by subst e; simp at h1
    have hxl := hx.1.lt
    have hyl := hy.1.lt
    obtain ⟨aP, u1, hqP, habP, hu1, hc1⟩ := hP.get (show x < (tabI G.length (plc0 G)).length by rw [tabI_length]; exact hxl)
    obtain ⟨aP2, u2, hqP2, habP2, hu2, hc2⟩ := hP.get (show y < (tabI G.length (plc0 G)).length by rw [tabI_length]; exact hyl)
    rw [hqP] at hqP2
    obtain rfl := Option.some.inj hqP2
    rw [tabI_get hxl] at hu1
    obtain rfl := Option.some.inj hu1
    rw [tabI_get hyl] at hu2
    obtain rfl := Option.some.inj hu2
    have habP : aP.block < w.heap.size := habP
    rw [plc0_eq hG h0 hx.1] at hc1
    rw [plc0_eq hG h0 hy.1] at hc2
    obtain ⟨aO, v1, hqO, habO, hv1, hd1⟩ := hO.get (show x < (tabI G.length fun k => ovI (o k)).length by rw [tabI_length]; exact hxl)
    obtain ⟨aO2, v2, hqO2, habO2, hv2, hd2⟩ := hO.get (show y < (tabI G.length fun k => ovI (o k)).length by rw [tabI_length]; exact hyl)
    rw [hqO] at hqO2
    obtain rfl := Option.some.inj hqO2
    rw [tabI_get hxl] at hv1
    obtain rfl := Option.some.inj hv1
    rw [tabI_get hyl] at hv2
    obtain rfl := Option.some.inj hv2
    have habO : aO.block < w.heap.size := habO
    rw [hqP, hqO]
    apply W.sk
    apply W.block
    apply W.seq
    apply W.regd0; decide +kernel; kernel_rfl; decide +kernel; exact fun w hw => hw.drew
    apply qfa; rfl; rfl; rfl
    apply qld; rfl; rfl; exact .head _; rfl; rfl
    apply qmv; rfl; rfl
    apply qop; rfl; apply Pev.idx; rfl; exact yes; rfl; exact yes; rfl; rfl; intro hcond; omega
    apply qop; rfl; apply Pev.load_kept; rfl; exact yes; exact .head _; rfl; intro hcond; assumption; intro hcond; (rw [add_block]; assumption); intro hcond; exact NotOwned.au
    apply qfa; rfl; rfl; rfl
    apply qld; rfl; rfl; exact .head _; rfl; rfl
    apply qmv; rfl; rfl
    apply qop; rfl; apply Pev.idx; rfl; exact yes; rfl; exact yes; rfl; rfl; intro hcond; omega
    apply qop; rfl; apply Pev.load_kept; rfl; exact yes; exact .head _; rfl; intro hcond; assumption; intro hcond; (rw [add_block]; assumption); intro hcond; exact NotOwned.au
    apply qbn; rfl; rfl; rfl; apply Bin.gtr
    apply QL.nil
    with_reducible apply At.next
    refine W.cond rfl (fun h2 => ?_) (fun h2 => ?_)
    · have hlt : plN G y < plN G x := by simp at h2; omega
      have hx0 : x ≠ 0 := fun e => by rw [e, hord.zero] at hlt; omega
      obtain ⟨p, hop, hpp, hpl⟩ := hx.over hw hx0
      rw [hop] at hd1
      simp only [ovI] at hd1
      apply W.reg
      apply ofa; rfl; rfl; rfl
      apply old; rfl; rfl; exact .head _; rfl; rfl
      apply omv; rfl; rfl
      apply oop; rfl; apply Pev.idx; rfl; exact yes; rfl; exact yes; rfl; rfl; intro hcond; omega
      apply oop; rfl; apply Pev.load_kept; rfl; exact yes; exact .head _; rfl; intro hcond; assumption; intro hcond; (rw [add_block]; assumption); intro hcond; exact NotOwned.au
      apply oas; rfl; rfl
      apply OL.nil
      with_reducible apply At.in_normal
      exact At.again (p, y) ⟨hpp, hy, fun d => (An.step_max hw hop hlt d).symm.trans (hxy d)⟩ (by simp only; omega) (by exact Sub.au) (fun w' hw' => hw')
    · have hlt : plN G x < plN G y := by
        have h3 : plN G x ≤ plN G y := by simp at h2; omega
        have h4 : plN G x ≠ plN G y := fun e => hne (hord.inj x y hx.1 hy.1 e)
        omega
      have hy0 : y ≠ 0 := fun e => by rw [e, hord.zero] at hlt; omega
      obtain ⟨p, hop, hpp, hpl⟩ := hy.over hw hy0
      rw [hop] at hd2
      simp only [ovI] at hd2
      apply W.reg
      apply ofa; rfl; rfl; rfl
      apply old; rfl; rfl; exact .head _; rfl; rfl
      apply omv; rfl; rfl
      apply oop; rfl; apply Pev.idx; rfl; exact yes; rfl; exact yes; rfl; rfl; intro hcond; omega
      apply oop; rfl; apply Pev.load_kept; rfl; exact yes; exact .head _; rfl; intro hcond; assumption; intro hcond; (rw [add_block]; assumption); intro hcond; exact NotOwned.au
      apply oas; rfl; rfl
      apply OL.nil
      with_reducible apply At.in_normal
      exact At.again (x, p) ⟨hx, hpp, fun d => (and_comm.trans ((An.step_max hw hop hlt d).symm.trans and_comm)).trans (hxy d)⟩ (by simp only; omega) (by exact Sub.au) (fun w' hw' => hw')
  · obtain rfl : x = y := by simp at h1; omega
    refine W.xt ?_
    with_reducible apply At.next
    apply W.sr
    apply omv; rfl; rfl
    apply oas; rfl; rfl
    apply OL.nx
    apply W.ret
    ((with_reducible apply At.fin1); rfl; rfl; intro w' hw')
    exact ⟨x, rfl, hx, fun d => by rw [← hxy d, and_self], (hw'.thin (.any (fun k hk => by rw [show k = b3 from hk]; exact ⟨hb31, trivial⟩) Thin.nil)).fr (by exact mau) (fun k hk => NotOwned.nil)⟩
theorem dominates_calls (G : List (List Int)) (hG : ∀ l ∈ G, ∀ e ∈ l, 0 ≤ e ∧ e < (G.length : Int)) (h0 : 0 < G.length) (o : Nat → Option Nat) (he : EndR G (plN G) o) (qO qP : Option Addr) (cO cP a b : Nat) (w : World) (hO : IntsO w (low w) (tabI G.length fun k => ovI (o k)) qO) (hP : IntsO w (low w) (tabI G.length (plc0 G)) qP) (hlen : G.length ≤ 1000000) (hb : b < G.length) :
    Calls Try.prog 93 [.agg #[.slice qO G.length cO, .slice qP G.length cP], .int .i64 (a : Int), .int .i64 (b : Int)].toArray w fun e w' => ∃ r : Bool, e = .returned (.bool r) ∧ (r = true ↔ (¬ Rc G (-1) b ∨ An o a b)) ∧ Ext w w' := by
  have hord := ordOk hG h0
  obtain ⟨aP, u1, hqP, habP, hu1, hc1⟩ := hP.get (show b < (tabI G.length (plc0 G)).length by rw [tabI_length]; exact hb)
  rw [tabI_get hb] at hu1
  obtain rfl := Option.some.inj hu1
  have habP : aP.block < w.heap.size := habP
  rw [hqP]
  refine enter Try.func93 rfl Try.ntmps93 rfl (Cls.start w) ?_
  (simp only [argEnv, Nat.zero_add, Nat.reduceAdd])
  apply W.sr
  apply OL.box; rfl; rfl; exact CellsL.agg; (intro bk hbk; simp only [AllLe, and_true] at hbk)
  apply oas; rfl; rfl
  apply OL.nx
  apply W.seq
  apply W.sr
  apply ofa; rfl; rfl; rfl
  apply old; rfl; rfl; exact .head _; rfl; rfl
  apply omv; rfl; rfl
  apply oop; rfl; apply Pev.idx; rfl; exact yes; rfl; exact yes; rfl; rfl; intro hcond; omega
  apply oop; rfl; apply Pev.load_kept; rfl; exact yes; exact .head _; rfl; intro hcond; assumption; intro hcond; (rw [add_block]; assumption); intro hcond; exact NotOwned.au
  apply obn; rfl; rfl; rfl; apply Bin.lss
  apply OL.nx
  have hb31 : w.heap.size ≤ bk := by first | exact hbk | exact hbk.1
  refine W.cond rfl (fun h1 => ?_) (fun h1 => ?_)
  · have hnr : ¬ Rc G (-1) b := fun h => by
      have := (plc0_iff hG h0 b).2 h
      simp at h1
      omega
    apply W.sr
    apply oas; rfl; rfl
    apply OL.nx
    refine W.rt ?_
    ((with_reducible apply At.fin1); rfl; rfl; intro w' hw')
    exact ⟨true, rfl, by simp [hnr], (hw'.thin (.any (fun k hk => by rw [show k = bk from hk]; exact ⟨hb31, trivial⟩) Thin.nil)).fr (by exact mau) (fun k hk => NotOwned.nil)⟩
  have hr : Rc G (-1) b := (plc0_iff hG h0 b).1 (by simp at h1; omega)
  apply W.sk
  apply W.sb
  refine W.loop (G := Option Nat) (fun z => match z with | none => ¬ An o a b | some y => Rc G (-1) y ∧ (An o a y ↔ An o a b)) (fun z => match z with | none => 0 | some y => plN G y + 1)
    (fun z => [(1, true, .int .i64 (a : Int)), (2, true, .int .i64 (ovI z)), (3, true, .pointer (some ⟨bk, 0, none⟩))])
    (fun _ => Cls [blk bk 135 [.slice qO G.length cO, .slice (some aP) G.length cP]] [w]) (some b) ⟨hr, Iff.rfl⟩ (by simp only [ovI]; exact Sub.au) (fun w' hw' => hw') ?_
  intro z hz
  cases z with
  | none =>
    simp only [ovI] at hz ⊢
    apply W.seq
    apply W.sr
    apply omv; rfl; rfl
    apply obn; rfl; rfl; rfl; apply Bin.geq
    apply omv; rfl; rfl
    apply oy; rfl; rfl; rfl; apply Pev.move; rfl; exact yes
    apply oy; rfl; rfl; rfl; apply Pev.move; rfl; exact yes
    apply oy; rfl; rfl; rfl; apply Pev.bin; rfl; exact fun h => h; rfl; exact fun h => h; intro hcond; apply Bin.neq
    apply oop; rfl; apply Pev.pick_and; rfl; exact yes; rfl; exact fun h => h
    apply OL.nx
    refine W.cond rfl (fun h => by simp at h) (fun _ => ?_)
    refine W.xt ?_
    with_reducible apply At.next
    apply W.sr
    apply omv; rfl; rfl
    apply omv; rfl; rfl
    apply obn; rfl; rfl; rfl; apply Bin.eql
    apply oas; rfl; rfl
    apply OL.nx
    apply W.ret
    ((with_reducible apply At.fin1); rfl; rfl; intro w' hw')
    exact ⟨decide ((-1 : Int) = (a : Int)), rfl, by simp [hz, hr], (hw'.thin (.any (fun k hk => by rw [show k = bk from hk]; exact ⟨hb31, trivial⟩) Thin.nil)).fr (by exact mau) (fun k hk => NotOwned.nil)⟩
  | some y =>
    simp only [ovI] at hz ⊢
    obtain ⟨hyr, hy⟩ := hz
    have hyl := hyr.lt
    obtain ⟨aO, v1, hqO, habO, hv1, hd1⟩ := hO.get (show y < (tabI G.length fun k => ovI (o k)).length by rw [tabI_length]; exact hyl)
    rw [tabI_get hyl] at hv1
    obtain rfl := Option.some.inj hv1
    have habO : aO.block < w.heap.size := habO
    subst hqO
    apply W.seq
    apply W.sr
    apply omv; rfl; rfl
    apply obn; rfl; rfl; rfl; apply Bin.geq
    apply omv; rfl; rfl
    apply oy; rfl; rfl; rfl; apply Pev.move; rfl; exact yes
    apply oy; rfl; rfl; rfl; apply Pev.move; rfl; exact yes
    apply oy; rfl; rfl; rfl; apply Pev.bin; rfl; exact yes; rfl; exact yes; intro hcond; apply Bin.neq
    apply oop; rfl; apply Pev.pick_and; rfl; exact yes; rfl; exact yes
    apply OL.nx
    refine W.cond rfl (fun h2 => ?_) (fun h2 => ?_)
    · have hya : y ≠ a := fun e => by subst e; simp at h2
      apply W.sk
      apply W.block
      apply W.reg
      apply ofa; rfl; rfl; rfl
      apply old; rfl; rfl; exact .head _; rfl; rfl
      apply omv; rfl; rfl
      apply oop; rfl; apply Pev.idx; rfl; exact yes; rfl; exact yes; rfl; rfl; intro hcond; omega
      apply oop; rfl; apply Pev.load_kept; rfl; exact yes; exact .head _; rfl; intro hcond; assumption; intro hcond; (rw [add_block]; assumption); intro hcond; exact NotOwned.au
      apply oas; rfl; rfl
      apply OL.nil
      with_reducible apply At.in_normal
      refine At.again (o y) ?_ ?_ (by exact Sub.au) (fun w' hw' => hw')
      · cases hoy : o y with
        | none =>
          intro ha
          cases hy.2 ha with
          | refl => exact hya rfl
          | up h3 _ => rw [hoy] at h3; cases h3
        | some p =>
          refine ⟨(he.w.wf y p hoy).2.1, ?_⟩
          rw [← hy]
          constructor
          · exact fun h => .up hoy h
          · intro h
            cases h with
            | refl => exact absurd rfl hya
            | up h3 r =>
              rw [hoy] at h3
              obtain rfl := Option.some.inj h3
              exact r
      · cases hoy : o y with
        | none => simp only; omega
        | some p => have := (he.w.wf y p hoy).2.2.1; simp only; omega
    · obtain rfl : y = a := by simp at h2; omega
      refine W.xt ?_
      with_reducible apply At.next
      apply W.sr
      apply omv; rfl; rfl
      apply omv; rfl; rfl
      apply obn; rfl; rfl; rfl; apply Bin.eql
      apply oas; rfl; rfl
      apply OL.nx
      apply W.ret
      ((with_reducible apply At.fin1); rfl; rfl; intro w' hw')
      exact ⟨decide ((y : Int) = (y : Int)), rfl, by simp [← hy, An.refl], (hw'.thin (.any (fun k hk => by rw [show k = bk from hk]; exact ⟨hb31, trivial⟩) Thin.nil)).fr (by exact mau) (fun k hk => NotOwned.nil)⟩
end Go.Proofs.Ytehelljmaiophaa.ss

/- The walks of the law's diamond and cfgWorks. Conditions: none. -/
namespace Go.Ss
set_option linter.unusedVariables false
set_option linter.unusedSimpArgs false
open Go.Eng Go.RowKit
set_option linter.unusedVariables false
set_option linter.unusedSimpArgs false
def dia : Go.Ss.Fn := ⟨-1, [⟨[], [⟨1, 0, 1, []⟩], ⟨2, 1, 0, [], [⟨1, []⟩, ⟨2, []⟩]⟩⟩, ⟨[], [], ⟨1, 0, 0, [], [⟨3, []⟩]⟩⟩, ⟨[], [], ⟨1, 0, 0, [], [⟨3, []⟩]⟩⟩, ⟨[], [], ⟨0, 1, 0, [], []⟩⟩]⟩
theorem dia_ok : funcE dia = 0 := by
  have h0 : DefAt dia.blocks 1 0 1 := ⟨_, rfl, .inr ⟨0, _, rfl, rfl, rfl⟩⟩
  have hu : ∀ (k : Nat) b, dia.blocks[k]? = some b → UsesB dia.blocks k b := by
    intro k b hb
    have hk : k = 0 ∨ k = 1 ∨ k = 2 ∨ k = 3 := by
      have := (List.getElem?_eq_some_iff.1 hb).1
      simp [dia] at this
      omega
    rcases hk with rfl | rfl | rfl | rfl
    · obtain rfl := Option.some.inj hb
      refine ⟨fun n i hi v hv => ?_, fun v hv => ?_⟩
      · match n, hi with
        | 0, hi =>
          obtain rfl := Option.some.inj hi
          cases hv
        | n + 1, hi => simp at hi
      · obtain rfl : v = 1 := by simpa [operT] using hv
        exact ⟨0, 1, h0, .inl ⟨rfl, Nat.le_refl _⟩⟩
    · obtain rfl := Option.some.inj hb
      exact ⟨fun n i hi v hv => by simp at hi, fun v hv => by simp [operT] at hv⟩
    · obtain rfl := Option.some.inj hb
      exact ⟨fun n i hi v hv => by simp at hi, fun v hv => by simp [operT] at hv⟩
    · obtain rfl := Option.some.inj hb
      refine ⟨fun n i hi v hv => by simp at hi, fun v hv => ?_⟩
      obtain rfl : v = 1 := by simpa [operT] using hv
      exact ⟨0, 1, h0, .inr (.inl ⟨by decide, .inr (rc_none (.inl rfl) 3)⟩)⟩
  have hs : shapeE dia.blocks = 0 := by decide
  unfold funcE
  rw [if_neg (by decide), if_neg (by decide), if_neg (by decide), if_neg (fun h => h hs), if_pos hu]
theorem arrBlk {α μ : Type} {R : Rel α μ} {w : World} {b : Nat} {e : TypeId} {l : List (α × μ)} (hb : (blk b e (cat R.c l)).holds w) (he : ∀ p ∈ l, R.ok w (low w) p.1 p.2) : Arr R w (low w) l (some ⟨b, 0, none⟩) :=
  ⟨fun _ => ⟨_, rfl, blk_lt hb, fun j v hj => by rw [add_mid, blk_cell hb, Nat.zero_add]; exact hj⟩, he⟩
theorem blkInts {w : World} {b : Nat} {e : TypeId} {l : List Int} (hb : (blk b e (ints l)).holds w) : IntsO w (low w) l (some ⟨b, 0, none⟩) :=
  fun _ => ⟨_, rfl, blk_lt hb, fun j v hj => by rw [add_mid, blk_cell hb, Nat.zero_add]; exact hj⟩
theorem nilS (w : World) (O : Nat → Prop) : IntsO w O [] none := IntsO.nil
theorem dia_order : (visC (graphB dia.blocks) 0 (List.replicate dia.blocks.length false, [])).2.reverse = [0, 2, 1, 3] := by decide
theorem dia_preds : predsF (graphB dia.blocks) 0 3 = [1, 2] := by decide
end Go.Ss
namespace Go.Proofs.Ytehelljmaiophaa.ss
set_option linter.unusedVariables false
set_option linter.unusedSimpArgs false
set_option maxRecDepth 100000
open Go.Eng Go.RowKit Go.Ss
set_option linter.unusedVariables false
set_option linter.unusedSimpArgs false
theorem diamond_calls (w : World) : Calls Try.prog 84 #[] w fun e w' => ∃ y : FnY, e = .returned (.agg (fnC dia y).toArray) ∧ Ext w w' ∧ FnOk w' (low w') dia y := by
  refine enter Try.func84 rfl Try.ntmps84 rfl (Cls.start w) ?_
  (simp only [argEnv, Nat.zero_add, Nat.reduceAdd])
  apply W.sr
  apply OL.alloc; rfl; rfl; exact CellsL.agg; (intro bk hbk; simp only [AllLe, and_true] at hbk)
  apply OL.nsr
  apply oop; rfl; apply Pev.build; rfl; exact CellsL.agg; rfl; exact Fill.au; rfl
  apply OL.buildSlice; rfl; rfl; rfl; exact Elems.au; rfl; rfl; (intro bk hbk; simp only [AllLe, and_true] at hbk)
  apply oop; rfl; apply Pev.build; rfl; exact CellsL.agg; rfl; exact Fill.au; rfl
  apply OL.alloc; rfl; rfl; exact CellsL.agg; (intro bk hbk; simp only [AllLe, and_true] at hbk)
  apply OL.storeB; rfl; rfl; exact CellsL.agg; rfl; rfl; rfl; exact Swap.au; exact Put.au
  apply OL.nsr
  apply oop; rfl; apply Pev.build; rfl; exact CellsL.agg; rfl; exact Fill.au; rfl
  apply OL.buildSlice; rfl; rfl; rfl; exact Elems.au; rfl; rfl; (intro bk hbk; simp only [AllLe, and_true] at hbk)
  apply oop; rfl; apply Pev.build; rfl; exact CellsL.agg; rfl; exact Fill.au; rfl
  apply oop; rfl; apply Pev.build; rfl; exact CellsL.agg; rfl; exact Fill.au; rfl
  apply OL.buildSlice; rfl; rfl; rfl; exact Elems.au; rfl; rfl; (intro bk hbk; simp only [AllLe, and_true] at hbk)
  apply oop; rfl; apply Pev.build; rfl; exact CellsL.agg; rfl; exact Fill.au; rfl
  apply oop; rfl; apply Pev.build; rfl; exact CellsL.agg; rfl; exact Fill.au; rfl
  apply oop; rfl; apply Pev.load_blkA; rfl; exact yes; exact .tail _ (.tail _ (.head _)); rfl; exact Take.au
  apply oop; rfl; apply Pev.build; rfl; exact CellsL.agg; rfl; exact Fill.au; rfl
  apply oop; rfl; apply Pev.load_blkA; rfl; exact yes; exact .tail _ (.tail _ (.head _)); rfl; exact Take.au
  apply oop; rfl; apply Pev.build; rfl; exact CellsL.agg; rfl; exact Fill.au; rfl
  apply oop; rfl; apply Pev.build; rfl; exact CellsL.agg; rfl; exact Fill.au; rfl
  apply oop; rfl; apply Pev.build; rfl; exact CellsL.agg; rfl; exact Fill.au; rfl
  apply OL.buildSlice; rfl; rfl; rfl; exact Elems.au; rfl; rfl; (intro bk hbk; simp only [AllLe, and_true] at hbk)
  apply oop; rfl; apply Pev.build; rfl; exact CellsL.agg; rfl; exact Fill.au; rfl
  apply OL.storeB; rfl; rfl; exact CellsL.agg; rfl; rfl; rfl; exact Swap.au; exact Put.au
  apply OL.nx
  apply W.ret
  rename_i b0 hb0 b3 hb3 b1 hb1 b6 hb6 b9 hb9
  revert bk
  intro b18 hb18
  refine At.finC (b := b0) (cs := [.int .i64 (-1), .slice (some ⟨b18, 0, none⟩) 4 4]) rfl rfl (by exact mau) rfl rfl (fun w' hw' => ?_)
  have h3 : ArrP edR w' (low w') [⟨3, []⟩] (some ⟨b3, 0, none⟩) := ⟨[(⟨3, []⟩, (none, 0))], rfl, arrBlk (e := 105) (hw'.item (by exact mau)) (fun p hp => by
    obtain rfl := List.mem_singleton.1 hp
    exact ⟨by simp [I64], by simp, nilS _ _, fun n hn => (by cases hn)⟩)⟩
  have h9 : ArrP edR w' (low w') [⟨1, []⟩, ⟨2, []⟩] (some ⟨b9, 0, none⟩) := ⟨[(⟨1, []⟩, (none, 0)), (⟨2, []⟩, (none, 0))], rfl, arrBlk (e := 105) (hw'.item (by exact mau)) (fun p hp => by
    rcases List.mem_cons.1 hp with rfl | hp
    · exact ⟨by simp [I64], by simp, nilS _ _, fun n hn => (by cases hn)⟩
    · obtain rfl := List.mem_singleton.1 hp
      exact ⟨by simp [I64], by simp, nilS _ _, fun n hn => (by cases hn)⟩)⟩
  have h6 : ArrP inR w' (low w') [⟨1, 0, 1, []⟩] (some ⟨b6, 0, none⟩) := ⟨[(⟨1, 0, 1, []⟩, (none, 0))], rfl, arrBlk (e := 85) (hw'.item (by exact mau)) (fun p hp => by
    obtain rfl := List.mem_singleton.1 hp
    exact ⟨by simp [I64], by simp [I64], by simp [I64], by simp, by simp, nilS _ _, fun n hn => (by cases hn)⟩)⟩
  have hj : BkOk w' (low w') ⟨[], [], ⟨1, 0, 0, [], [⟨3, []⟩]⟩⟩ ⟨(none, 0), (none, 0), ⟨(none, 0), (some ⟨b3, 0, none⟩, 1)⟩⟩ :=
    ⟨by simp, by simp, by simp, by simp, nilS _ _, fun n hn => (by cases hn), ArrP.nil, ⟨by simp [I64], by simp [I64], by simp [I64], by simp, by simp, by simp, by simp, nilS _ _, fun n hn => (by cases hn), h3⟩⟩
  refine ⟨⟨some ⟨b18, 0, none⟩, 4⟩, rfl, by (exact hw'.fr), by simp [dia, I64], by simp [dia], by simp [dia], ⟨[(⟨[], [⟨1, 0, 1, []⟩], ⟨2, 1, 0, [], [⟨1, []⟩, ⟨2, []⟩]⟩⟩, ⟨(none, 0), (some ⟨b6, 0, none⟩, 1), ⟨(none, 0), (some ⟨b9, 0, none⟩, 2)⟩⟩), (⟨[], [], ⟨1, 0, 0, [], [⟨3, []⟩]⟩⟩, ⟨(none, 0), (none, 0), ⟨(none, 0), (some ⟨b3, 0, none⟩, 1)⟩⟩), (⟨[], [], ⟨1, 0, 0, [], [⟨3, []⟩]⟩⟩, ⟨(none, 0), (none, 0), ⟨(none, 0), (some ⟨b3, 0, none⟩, 1)⟩⟩), (⟨[], [], ⟨0, 1, 0, [], []⟩⟩, ⟨(none, 0), (none, 0), ⟨(none, 0), (none, 0)⟩⟩)], rfl, arrBlk (e := 41) (hw'.item (by exact mau)) (fun p hp => ?_)⟩⟩
  rcases List.mem_cons.1 hp with rfl | hp
  · exact ⟨by simp, by simp, by simp, by simp, nilS _ _, fun n hn => (by cases hn), h6, ⟨by simp [I64], by simp [I64], by simp [I64], by simp, by simp, by simp, by simp, nilS _ _, fun n hn => (by cases hn), h9⟩⟩
  rcases List.mem_cons.1 hp with rfl | hp
  · exact hj
  rcases List.mem_cons.1 hp with rfl | hp
  · exact hj
  obtain rfl := List.mem_singleton.1 hp
  exact ⟨by simp, by simp, by simp, by simp, nilS _ _, fun n hn => (by cases hn), ArrP.nil, ⟨by simp [I64], by simp [I64], by simp [I64], by simp, by simp, by simp, by simp, nilS _ _, fun n hn => (by cases hn), ArrP.nil⟩⟩
theorem Order_ext (fn : Go.Ss.Fn) (y : FnY) (w : World) (hfn : FnOk w (low w) fn y) :
    Calls Try.prog 38 [.agg (fnC fn y).toArray].toArray w fun e w' => Ext w w' ∧ ((funcE fn ≠ 0 ∧ e = .returned (.tuple #[.slice none 0 0, .int .i64 (funcE fn)])) ∨ (funcE fn = 0 ∧ ∃ (q : Option Addr) (c : Nat), e = .returned (.tuple #[.slice q (visC (graphB fn.blocks) 0 (List.replicate fn.blocks.length false, [])).2.reverse.length c, .int .i64 0]) ∧ IntsO w' (low w') (visC (graphB fn.blocks) 0 (List.replicate fn.blocks.length false, [])).2.reverse q)) :=
  (Order_calls fn y w hfn).mono fun e w' h => by
    rcases h with ⟨h1, h2, h3⟩ | ⟨h1, O, q, c, h2, h3⟩
    · exact ⟨h3, .inl ⟨h1, h2⟩⟩
    · exact ⟨(h3.thin (.any (fun k hk => ⟨hk.1, trivial⟩) Thin.nil)).fr (by exact mau) (fun k hk => NotOwned.nil), .inr ⟨h1, q, c, h2, rowIntsL h3 (.head _)⟩⟩
theorem Reachable_ext (fn : Go.Ss.Fn) (y : FnY) (w : World) (hfn : FnOk w (low w) fn y) :
    Calls Try.prog 37 [.agg (fnC fn y).toArray].toArray w fun e w' => Ext w w' ∧ ((funcE fn ≠ 0 ∧ e = .returned (.tuple #[.slice none 0 0, .int .i64 (funcE fn)])) ∨ (funcE fn = 0 ∧ ∃ (q : Option Addr) (c : Nat), e = .returned (.tuple #[.slice q (isrt (visC (graphB fn.blocks) 0 (List.replicate fn.blocks.length false, [])).2.reverse).length c, .int .i64 0]) ∧ IntsO w' (low w') (isrt (visC (graphB fn.blocks) 0 (List.replicate fn.blocks.length false, [])).2.reverse) q)) :=
  (Reachable_calls fn y w hfn).mono fun e w' h => by
    rcases h with ⟨h1, h2, h3⟩ | ⟨h1, O, q, c, h2, h3⟩
    · exact ⟨h3, .inl ⟨h1, h2⟩⟩
    · exact ⟨(h3.thin (.any (fun k hk => ⟨hk.1, trivial⟩) Thin.nil)).fr (by exact mau) (fun k hk => NotOwned.nil), .inr ⟨h1, q, c, h2, rowIntsL h3 (.head _)⟩⟩
theorem empty_ok : funcE ⟨0, []⟩ = 3 := by
  unfold funcE
  exact if_pos rfl
theorem cfgWorks_calls (w : World) : Calls Try.prog 35 #[] w fun e w' => e = .returned (.bool true) ∧ Ext w w' := by
  refine enter Try.func35 rfl Try.ntmps35 rfl (Cls.start w) ?_
  (simp only [argEnv, Nat.zero_add, Nat.reduceAdd])
  apply W.sr
  apply oas; rfl; rfl
  apply OL.nsr
  refine OL.callE (α := FnY × World) (fun z => .agg (fnC dia z.1).toArray) (fun z => FnOk z.2 (low z.2) dia z.1) (fun z => Cls [] [z.2, w]) rfl rfl (by exact Args.au) (fun w2 hw2 => (diamond_calls w2).mono fun e w3 ⟨y, h1, h2, h3⟩ => ⟨(y, w3), h1, h3, (hw2.ext h2).note⟩) ?_
  rintro ⟨y1, w1⟩ hf1
  simp only at hf1 ⊢
  skip
  refine OL.callE (α := (Option Addr × Nat) × World) (fun z => .tuple #[.slice z.1.1 4 z.1.2, .int .i64 0]) (fun z => IntsO z.2 (low z.2) [0, 2, 1, 3] z.1.1) (fun z => Cls [] [z.2, w]) rfl rfl (by exact Args.au) (fun w2 hw2 => (Order_ext dia y1 w2 (fnR.mono (hw2.up (.head _)) (fnR.stab (hw2.same (.head _) (fun k hk => NotOwned.nil)) hf1))).mono fun e w3 ⟨h1, h2⟩ => ?_) ?_
  · rcases h2 with ⟨h2, _⟩ | ⟨_, q, c, h2, h3⟩
    · exact absurd dia_ok h2
    · rw [dia_order] at h2 h3
      exact ⟨((q, c), w3), h2, h3, ((hw2.ext h1).forget (by simp)).note⟩
  rintro ⟨⟨q2, c2⟩, w2⟩ hI2
  simp only at hI2 ⊢
  apply omv; rfl; rfl
  apply oex; rfl; rfl; rfl
  apply oex; rfl; rfl; rfl
  apply oas; rfl; rfl
  apply oas; rfl; rfl
  apply OL.nsr
  refine OL.callE (α := FnY × World) (fun z => .agg (fnC dia z.1).toArray) (fun z => FnOk z.2 (low z.2) dia z.1) (fun z => Cls [] [z.2, w2, w]) rfl rfl (by exact Args.au) (fun w3 hw3 => (diamond_calls w3).mono fun e w4 ⟨y, h1, h2, h3⟩ => ⟨(y, w4), h1, h3, (hw3.ext h2).note⟩) ?_
  rintro ⟨y3, w3⟩ hf3
  simp only at hf3 ⊢
  skip
  refine OL.callE (α := Nat × World) (fun z => .tuple #[.slice (some ⟨z.1, 0, none⟩) 4 4, .int .i64 0]) (fun z => z.1 < z.2.heap.size ∧ ∃ (q : Option Addr) (c : Nat), z.2.cell? ⟨z.1, 3, none⟩ = some (.slice q 2 c) ∧ IntsO z.2 (low z.2) [1, 2] q) (fun z => Cls [] [z.2, w2, w]) rfl rfl (by exact Args.au) (fun w4 hw4 => (CPreds_calls dia y3 w4 (fnR.mono (hw4.up (.head _)) (fnR.stab (hw4.same (.head _) (fun k hk => NotOwned.nil)) hf3))).mono fun e w5 ⟨h1, h2⟩ => ?_) ?_
  · rcases h2 with ⟨h2, _⟩ | ⟨_, bO, h2, h3, h4⟩
    · exact absurd dia_ok h2
    · obtain ⟨q, c, h5, h6⟩ := h4 3 (by decide)
      have h7 : predsF (graphB dia.blocks) 0 ((3 : Nat) : Int) = [1, 2] := dia_preds
      rw [h7] at h5 h6
      exact ⟨(bO, w5), h2, ⟨h3, q, c, h5, h6⟩, ((hw4.ext h1).forget (by simp)).note⟩
  rintro ⟨bO, w4⟩ ⟨hbO, q4, c4, hc4, hI4⟩
  simp only at hbO hc4 hI4 ⊢
  apply omv; rfl; rfl
  apply oex; rfl; rfl; rfl
  apply oex; rfl; rfl; rfl
  apply oas; rfl; rfl
  apply oas; rfl; rfl
  apply OL.nsr
  apply oop; rfl; apply Pev.build; rfl; exact CellsL.agg; rfl; exact Fill.au; rfl
  refine OL.callE (α := Unit) (fun z => .tuple #[.slice none 0 0, .int .i64 3]) (fun z => True) (fun z => Cls [] [w4, w2, w]) rfl rfl (by exact Args.au) (fun w5 hw5 => (Order_ext ⟨0, []⟩ ⟨none, 0⟩ w5 ⟨by simp [I64], by simp, by simp, ArrP.nil⟩).mono fun e w6 ⟨h1, h2⟩ => ?_) ?_
  · rcases h2 with ⟨_, h2⟩ | ⟨h2, _⟩
    · rw [empty_ok] at h2
      exact ⟨(), h2, trivial, hw5.ext h1⟩
    · rw [empty_ok] at h2
      cases h2
  rintro _ _
  apply omv; rfl; rfl
  apply oex; rfl; rfl; rfl
  apply oex; rfl; rfl; rfl
  apply oas; rfl; rfl
  apply oas; rfl; rfl
  apply OL.nsr
  apply omv; rfl; rfl
  apply obn; rfl; rfl; rfl; apply Bin.eql
  apply omv; rfl; rfl
  apply oy; rfl; rfl; rfl; apply Pev.move; rfl; exact yes
  ((apply OL.ungate); (exact Guard.au); (decide))
  apply OL.buildSlice; rfl; rfl; rfl; exact Elems.au; rfl; rfl; (intro bk hbk; simp only [AllLe, and_true] at hbk)
  revert bk
  intro b26 hb26
  have hb261 : w2.heap.size ≤ b26 := by first | exact hb26.2.1 | exact hb26.1 | omega
  have hb262 : w4.heap.size ≤ b26 := by first | exact hb26.1 | exact hb26 | omega
  (((first | (with_reducible apply OL.op) | (with_reducible apply QL.op)); (exact Guard.au); rfl; rfl); (exact Pev.call (v := .bool true) rfl (by exact Args.au) (fun _ w5 hw5 => (SameInts_calls q2 (some ⟨b26, 0, none⟩) c2 4 [0, 2, 1, 3] [0, 2, 1, 3] w5 (by simp) (by simp) (hI2.at hw5 (.tail _ (.head _)) (fun k hk => by exact NotOwned.au)) (blkInts (hw5.item (.head _)))).mono (fun e w6 h => ⟨by rw [h.1]; rfl, hw5.ext h.2⟩))))
  apply oop; rfl; apply Pev.pick_and; rfl; exact yes; rfl; exact yes
  apply omv; rfl; rfl
  apply oy; rfl; rfl; rfl; apply Pev.move; rfl; exact yes
  apply oy; rfl; rfl; rfl; apply Pev.bin; rfl; exact yes; rfl; exact yes; intro hcond; apply Bin.eql
  apply oop; rfl; apply Pev.pick_and; rfl; exact yes; rfl; exact yes
  apply omv; rfl; rfl
  apply oy; rfl; rfl; rfl; apply Pev.move; rfl; exact yes
  apply oy; rfl; rfl; rfl; apply Pev.len_slice; rfl; exact yes; rfl
  apply oy; rfl; rfl; rfl; apply Pev.bin; rfl; exact yes; rfl; exact yes; intro hcond; apply Bin.eql
  apply oop; rfl; apply Pev.pick_and; rfl; exact yes; rfl; exact yes
  apply omv; rfl; rfl
  apply oy; rfl; rfl; rfl; apply Pev.move; rfl; exact yes
  apply oy; rfl; rfl; rfl; apply Pev.idxB; rfl; exact yes; rfl; exact yes; rfl; intro hcond; omega; rfl
  apply oy; rfl; rfl; rfl; apply Pev.load_kept; rfl; exact yes; exact .head _; rfl; intro hcond; assumption; intro hcond; assumption; intro hcond; exact NotOwned.au
  ((apply OL.ungate); (exact Guard.au); (decide))
  apply OL.buildSlice; rfl; rfl; rfl; exact Elems.au; rfl; rfl; (intro bk hbk; simp only [AllLe, and_true] at hbk)
  revert bk
  intro b42 hb42
  have hb421 : w4.heap.size ≤ b42 := by first | exact hb42.1 | exact hb42 | omega
  (((first | (with_reducible apply OL.op) | (with_reducible apply QL.op)); (exact Guard.au); rfl; rfl); (exact Pev.call (v := .bool true) rfl (by exact Args.au) (fun _ w5 hw5 => (SameInts_calls q4 (some ⟨b42, 0, none⟩) c4 2 [1, 2] [1, 2] w5 (by simp) (by simp) (hI4.at hw5 (.head _) (fun k hk => by exact NotOwned.au)) (blkInts (hw5.item (.head _)))).mono (fun e w6 h => ⟨by rw [h.1]; rfl, hw5.ext h.2⟩))))
  apply oop; rfl; apply Pev.pick_and; rfl; exact yes; rfl; exact yes
  apply omv; rfl; rfl
  apply oy; rfl; rfl; rfl; apply Pev.move; rfl; exact yes
  apply oy; rfl; rfl; rfl; apply Pev.bin; rfl; exact yes; rfl; exact yes; intro hcond; apply Bin.eql
  apply oop; rfl; apply Pev.pick_and; rfl; exact yes; rfl; exact yes
  apply oas; rfl; rfl
  apply OL.nx
  apply W.ret
  ((with_reducible apply At.fin1); rfl; rfl; intro w' hw')
  exact ⟨rfl, (hw'.thin (by exact Thin.au)).fr (by exact mau) (fun k hk => NotOwned.nil)⟩
end Go.Proofs.Ytehelljmaiophaa.ss

/- cfg.Preds once more: what it hands out is its own. Conditions: none. -/
namespace Go.Eng
set_option linter.unusedVariables false
set_option linter.unusedSimpArgs false
variable {H : List Item} {S S2 : List World} {w2 w3 : World} {i j : Item}
theorem Cls.plus2 (h : Cls H S w2) (hc : Cls [i, j] S2 w3) (h2 : w2 ∈ S2) (hi : ∀ k, i.own k → w2.heap.size ≤ k) (hj : ∀ k, j.own k → w2.heap.size ≤ k) : Cls (i :: j :: H) S w3 := by
  have he : Ext w2 w3 := hc.toExt h2 (fun k hk => NotOwned.any (fun hm => by have := hi k hm; omega) (NotOwned.any (fun hm => by have := hj k hm; omega) .nil))
  have h' := h.ext he
  have hd := List.pairwise_cons.1 hc.dj
  refine ⟨fun x hx => ?_, fun x hx => ?_, .cons (fun x hx k hk hk' => ?_) (.cons (fun x hx k hk hk' => ?_) h'.dj), fun s hs => (h'.kp s hs).mono fun k _ ⟨x, hx, hxk⟩ => ⟨x, .tail _ (.tail _ hx), hxk⟩⟩
  · rcases List.mem_cons.1 hx with rfl | hx
    · exact hc.holds _ (.head _)
    · rcases List.mem_cons.1 hx with rfl | hx
      · exact hc.holds _ (.tail _ (.head _))
      · exact h'.holds x hx
  · rcases List.mem_cons.1 hx with rfl | hx
    · exact hc.lt _ (.head _)
    · rcases List.mem_cons.1 hx with rfl | hx
      · exact hc.lt _ (.tail _ (.head _))
      · exact h'.lt x hx
  · rcases List.mem_cons.1 hx with rfl | hx
    · exact hd.1 _ (.head _) k hk hk'
    · have := h.lt x hx k hk'
      have := hi k hk
      omega
  · have := h.lt x hx k hk'
    have := hj k hk
    omega
end Go.Eng
namespace Go.Proofs.Ytehelljmaiophaa.ss
set_option linter.unusedVariables false
set_option linter.unusedSimpArgs false
set_option maxRecDepth 100000
open Go.Eng Go.RowKit Go.Ss
set_option linter.unusedVariables false
set_option linter.unusedSimpArgs false
theorem CPredsC_calls (fn : Go.Ss.Fn) (y : FnY) (w : World) (hfn : FnOk w (low w) fn y) :
    Calls Try.prog 36 [.agg (fnC fn y).toArray].toArray w fun e w' => (funcE fn ≠ 0 ∧ e = .returned (.tuple #[.slice none 0 0, .int .i64 (funcE fn)]) ∧ Ext w w') ∨ (funcE fn = 0 ∧ ∃ (bO : Nat) (L : List Rw), e = .returned (.tuple #[.slice (some ⟨bO, 0, none⟩) fn.blocks.length fn.blocks.length, .int .i64 0]) ∧ w.heap.size ≤ bO ∧ RwsOf L fn.blocks.length (fun k => predsF (graphB fn.blocks) 0 (k : Int)) ∧ Cls [rws w.heap.size 3 1 (fun j => L[j]?), blk bO 35 (L.map slC)] [w] w') := by
  have hfn0 := hfn
  obtain ⟨es, hes, he⟩ := hfn.b
  obtain ⟨nm, bs⟩ := fn
  obtain ⟨q, cap⟩ := y
  have hbl := hfn.bl
  simp only at hes he hbl ⊢
  have hbl2 : bs.length = es.length := by rw [← hes, List.length_map]
  refine enter Try.func36 rfl Try.ntmps36 rfl (Cls.start w) ?_
  (simp only [argEnv, Nat.zero_add, Nat.reduceAdd])
  simp only [fnC]
  rw [hbl2]
  apply W.sr
  apply OL.box; rfl; rfl; exact CellsL.agg; (intro bk hbk; simp only [AllLe, and_true] at hbk)
  apply oas; rfl; rfl
  apply oas; rfl; rfl
  apply OL.nx
  apply W.seq
  apply W.sr
  apply oop; rfl; apply Pev.load_blkA; rfl; exact yes; exact .head _; rfl; exact Take.au
  revert bk
  intro bF hbF
  have hC : ∀ w2, Cls [blk bF 24 [.int .i64 nm, .slice q es.length cap]] [w] w2 → Calls Try.prog 30 [.agg #[.int .i64 nm, .slice q es.length cap]].toArray w2 fun e w' => e = .returned (.int .i64 (funcE ⟨nm, bs⟩)) ∧ Ext w2 w' := fun w2 hw2 => by
    have h1 := CheckFunc_calls ⟨nm, bs⟩ ⟨q, cap⟩ w2 (fnR.mono (hw2.up (.head _)) (fnR.stab (hw2.same (.head _) (fun k hk => by exact NotOwned.au)) hfn0))
    simp only [fnC] at h1
    rw [hbl2] at h1
    exact h1
  (((first | (with_reducible apply OL.op) | (with_reducible apply QL.op)); (exact Guard.au); rfl; rfl); (exact Pev.call (v := .int .i64 (funcE ⟨nm, bs⟩)) rfl (by exact Args.au) (fun _ w2 hw2 => (hC w2 hw2).mono (fun e w3 h => ⟨h.1, hw2.ext h.2⟩))))
  apply oas; rfl; rfl
  apply OL.nsr
  apply omv; rfl; rfl
  apply obn; rfl; rfl; rfl; apply Bin.neq
  apply OL.nx
  (refine W.cnd (fun hne => ?_) (fun hne => ?_)) <;> (try (exfalso; first | omega | exact hne trivial | contradiction))
  · apply W.sr
    apply omv; rfl; rfl
    apply oas; rfl; rfl
    apply oas; rfl; rfl
    apply OL.nx
    refine W.rt ?_
    ((with_reducible apply At.fin2); rfl; rfl; rfl; intro w' hw')
    exact .inl ⟨hne, rfl, by (exact hw'.fr)⟩
  have hf0 : funcE ⟨nm, bs⟩ = 0 := by simpa using hne
  obtain ⟨h0, h128, hs0⟩ := func_zero hf0
  simp only at h0 h128 hs0
  obtain ⟨G, hG⟩ : ∃ G, graphB bs = G := ⟨_, rfl⟩
  have hGl : G.length = es.length := by rw [← hG]; simp [graphB, hbl2]
  have hGM : ∀ l ∈ G, l.length ≤ 257 := fun l hl => by
    rw [← hG] at hl
    obtain ⟨b, hb, rfl⟩ := List.mem_map.1 hl
    rw [List.length_map]
    exact to_len hs0 hb
  have hGE : ∀ l ∈ G, ∀ x ∈ l, 1 ≤ x ∧ x < (es.length : Int) := fun l hl x hx => by
    rw [← hG] at hl
    obtain ⟨b, hb, rfl⟩ := List.mem_map.1 hl
    obtain ⟨e, he, rfl⟩ := List.mem_map.1 hx
    have := shape_edges hs0 b hb e he
    omega
  rw [hG]
  apply W.sk
  apply W.sr
  apply ofa; rfl; rfl; rfl
  apply old; rfl; rfl; exact .head _; rfl; rfl
  apply oop; rfl; apply Pev.len_slice; rfl; exact yes; rfl
  apply OL.makeSlice; rfl; rfl; rfl; rfl; rfl; rfl; rfl; omega; (intro bk hbk; simp only [AllLe, and_true] at hbk)
  apply oas; rfl; rfl
  apply OL.nx
  apply W.seq
  apply W.sr
  apply ofa; rfl; rfl; rfl
  apply old; rfl; rfl; exact .tail _ (.head _); rfl; rfl
  apply oop; rfl; apply Pev.len_slice; rfl; exact yes; rfl
  apply omv; rfl; rfl
  apply OL.nx
  apply W.block
  revert bk
  intro bO hbO
  have hbO1 : w.heap.size ≤ bO := by first | exact hbO | exact hbO.1
  rw [slC_zero]
  refine W.loop (G := Nat × List Rw) (fun g => g.1 ≤ es.length ∧ RwsOf g.2 es.length (fun k => predsF (G.take g.1) 0 (k : Int))) (fun g => es.length - g.1)
    (fun g => [(5, true, .slice (some ⟨bO, 0, none⟩) es.length es.length), (20, true, .slice q es.length cap), (21, true, .int .i64 (es.length : Int)), (22, true, .int .i64 (g.1 : Int))])
    (fun g => Cls [rws w.heap.size 3 1 (fun j => g.2[j]?), blk bO 35 (g.2.map slC)] [w]) (0, List.replicate es.length ⟨fun _ => False, none, 0, 0, []⟩) ⟨by simp, by simp, fun k r hr => by rw [(List.mem_replicate.1 (List.mem_of_getElem? hr)).2]; exact ⟨rfl, rfl⟩⟩ (by exact Sub.au) (fun w' hw' => ((hw'.thin (by exact Thin.au)).rws_new w.heap.size 3 1 es.length)) ?_
  rintro ⟨i, L⟩ ⟨hi, hL⟩
  simp only at hi hL ⊢
  have hLl := hL.1
  apply W.sr
  apply obn; rfl; rfl; rfl; apply Bin.lss
  apply OL.nx
  apply W.seq
  (refine W.cnd (fun hlt => ?_) (fun hlt => ?_)) <;> (try (exfalso; first | omega | exact hlt trivial | contradiction))
  · have hil : i < es.length := by omega
    obtain ⟨a, p, hqa, hab, hp, hcell, hok⟩ := he.get hil
    have hab : a.block < w.heap.size := hab
    have hcell : CellsAt w (a.add (i * 7)) [.slice p.2.p.1 p.1.params.length p.2.p.2, .slice p.2.i.1 p.1.ins.length p.2.i.2, .int .i64 p.1.term.kind, .int .i64 p.1.term.arg, .int .i64 p.1.term.n, .slice p.2.t.c.1 p.1.term.cases.length p.2.t.c.2, .slice p.2.t.t.1 p.1.term.to_.length p.2.t.t.2] := hcell
    obtain ⟨ts, hts, harr⟩ := hok.t.t
    have htl2 : p.1.term.to_.length = ts.length := by rw [← hts, List.length_map]
    obtain ⟨l, hl⟩ : ∃ l, p.1.term.to_.map Ed.block = l := ⟨_, rfl⟩
    have hGi : G[i]? = some l := by
      rw [← hG, ← hl, ← hes]
      simp [graphB, hp]
    have hll : l.length = ts.length := by rw [← hl, List.length_map, htl2]
    have hlM := hGM l (List.mem_of_getElem? hGi)
    have hnx : ∀ k : Int, predsF (G.take (i + 1)) 0 k = predsF (G.take i) 0 k ++ List.replicate (l.count k) (i : Int) := fun k => by
      rw [List.take_add_one, hGi, Option.toList_some, predsF_snoc, List.length_take, Nat.min_eq_left (by omega), Nat.zero_add]
    have hbd : ∀ k : Int, (predsF (G.take i) 0 k).length ≤ 128 * 257 := fun k => by
      have h1 := predsF_len (M := 257) (G := G.take i) (n := 0) (k := k) (fun m hm => hGM m (List.mem_of_mem_take hm))
      rw [List.length_take] at h1
      have : min i G.length * 257 ≤ 128 * 257 := Nat.mul_le_mul_right _ (by omega)
      omega
    rw [hqa]
    apply W.sk
    apply W.sb
    apply W.sr
    apply omv; rfl; rfl
    apply oop; rfl; apply Pev.idx; rfl; exact yes; rfl; exact yes; rfl; rfl; intro hcond; omega
    apply oop; rfl; apply Pev.load_keptA; rfl; exact yes; exact .head _; rfl; intro hcond; assumption; rfl; intro hcond; (rw [add_block]; assumption); intro hcond; (focus ((try simp only [add_block]); (repeat (first | exact NotOwned.nil | exact hno _ (by omega) | refine NotOwned.blk (by omega) ?_ | refine NotOwned.row (by omega) ?_ | refine NotOwned.rws (by omega) ?_ | refine NotOwned.pile (by omega) ?_)); done))
    apply OL.alloc; rfl; rfl; exact CellsL.agg; (intro bk hbk; simp only [AllLe, and_true] at hbk)
    apply oas; rfl; rfl
    apply OL.storeB; rfl; rfl; exact CellsL.agg; rfl; rfl; rfl; exact Swap.au; exact Put.au
    apply OL.nsr
    apply ofa; rfl; rfl; rfl
    apply ofa; rfl; rfl; rfl
    apply old; rfl; rfl; exact .head _; rfl; rfl
    apply oop; rfl; apply Pev.len_slice; rfl; exact yes; rfl
    apply omv; rfl; rfl
    apply OL.nx
    apply W.block
    refine W.loop (G := Nat × List Rw) (fun g => g.1 ≤ ts.length ∧ RwsOf g.2 es.length (fun k => predsF (G.take i) 0 (k : Int) ++ List.replicate ((l.take g.1).count (k : Int)) (i : Int))) (fun g => ts.length - g.1)
      (fun g => [(5, true, .slice (some ⟨bO, 0, none⟩) es.length es.length), (6, true, .int .i64 (i : Int)), (20, true, .slice (some a) es.length cap), (21, true, .int .i64 (es.length : Int)), (22, true, .int .i64 (i : Int)), (29, true, .slice p.2.t.t.1 ts.length p.2.t.t.2), (30, true, .int .i64 (ts.length : Int)), (31, true, .int .i64 (g.1 : Int))])
      (fun g => Cls [rws w.heap.size 3 1 (fun j => g.2[j]?), blk bO 35 (g.2.map slC)] [w]) (0, L) ⟨by simp, hL.congr fun k _ => by simp⟩ (by rw [htl2]; exact Sub.au) (fun w' hw' => hw'.thin (by exact Thin.au)) ?_
    rintro ⟨j, M⟩ ⟨hj, hM⟩
    simp only at hj hM ⊢
    have hMl := hM.1
    apply W.sr
    apply obn; rfl; rfl; rfl; apply Bin.lss
    apply OL.nx
    apply W.seq
    (refine W.cnd (fun hlt2 => ?_) (fun hlt2 => ?_)) <;> (try (exfalso; first | omega | exact hlt2 trivial | contradiction))
    · have hjl : j < ts.length := by omega
      obtain ⟨ae, u, hqt, hatb, hu, hcu, hoku⟩ := harr.get hjl
      have hatb : ae.block < w.heap.size := hatb
      have hcu : CellsAt w (ae.add (j * 2)) [.int .i64 u.1.block, .slice u.2.1 u.1.args.length u.2.2] := hcu
      have hlj : l[j]? = some u.1.block := by rw [← hl, ← hts]; simp [hu]
      obtain ⟨hb0, hb1⟩ := hGE l (List.mem_of_getElem? hGi) u.1.block (List.mem_of_getElem? hlj)
      obtain ⟨b, hb⟩ : ∃ b : Nat, u.1.block = (b : Int) := ⟨u.1.block.toNat, by omega⟩
      obtain ⟨r, hr⟩ : ∃ r, M[b]? = some r := ⟨_, List.getElem?_eq_getElem (by omega)⟩
      obtain ⟨hrx, hrm⟩ := hM.2 b r hr
      have hrv : (M.map slC)[0 + (b : Int).toNat * 1]? = some (.slice r.q r.m r.cap) := by
        rw [show 0 + (b : Int).toNat * 1 = b by omega, List.getElem?_map, hr]
        rfl
      have hcb : (l.take j).count (b : Int) ≤ 257 := by
        have h1 : (l.take j).count (b : Int) ≤ (l.take j).length := List.count_le_length
        rw [List.length_take] at h1
        omega
      have hrl : r.m ≤ 1000000 := by
        have h1 := hbd (b : Int)
        rw [hrm, List.length_append, List.length_replicate]
        omega
      rw [hb] at hcu
      rw [hqt]
      apply W.sk
      apply W.sb
      apply W.sr
      apply oop; rfl; apply Pev.idx; rfl; exact yes; rfl; exact yes; rfl; rfl; intro hcond; omega
      apply oop; rfl; apply Pev.load_keptA; rfl; exact yes; exact .head _; rfl; intro hcond; assumption; rfl; intro hcond; (rw [add_block]; assumption); intro hcond; (focus ((try simp only [add_block]); (repeat (first | exact NotOwned.nil | exact hno _ (by omega) | refine NotOwned.blk (by omega) ?_ | refine NotOwned.row (by omega) ?_ | refine NotOwned.rws (by omega) ?_ | refine NotOwned.pile (by omega) ?_)); done))
      apply OL.alloc; rfl; rfl; exact CellsL.agg; (intro bk hbk; simp only [AllLe, and_true] at hbk)
      apply OL.storeB; rfl; rfl; exact CellsL.agg; rfl; rfl; rfl; exact Swap.au; exact Put.au
      apply OL.nx
      revert bk
      intro b9 hb9
      have hb91 : w.heap.size ≤ b9 := by first | exact hb9 | exact hb9.1
      refine W.cls (C' := Cls [row w.heap.size r.O r.q r.m r.cap 3 1 r.xs, rws w.heap.size 3 1 (fout M b), blk b9 105 [.int .i64 (b : Int), .slice u.2.1 u.1.args.length u.2.2], blk bO 35 (M.map slC)] [w]) (fun w' hw' => hw'.flip.rws_out hr) ?_
      refine W.regany (X := XP5 [w]) (fun x e => [(46, true, bif e 11 then .pointer (some ⟨bO, 0 + (b : Int).toNat * 1, none⟩) else x.old 46), (45, true, bif e 10 then .slice (some ⟨x.g1, 0, none⟩) (r.m + 1) x.c1 else x.old 45), (44, true, bif e 9 then .slice (some ⟨x.b1, 0, none⟩) 1 1 else x.old 44), (43, true, bif e 8 then .int .i64 (i : Int) else x.old 43), (42, true, bif e 7 then .slice r.q r.m r.cap else x.old 42), (41, true, bif e 6 then .pointer (some ⟨bO, 0 + (b : Int).toNat * 1, none⟩) else x.old 41), (40, true, bif e 5 then .int .i64 (b : Int) else x.old 40), (39, true, bif e 4 then .pointer (some ⟨b9, 0 + 0, none⟩) else x.old 39), (38, true, bif e 3 then .slice (some ⟨bO, 0, none⟩) es.length es.length else x.old 38), (37, true, bif e 2 then .int .i64 (b : Int) else x.old 37), (36, true, bif e 1 then .pointer (some ⟨b9, 0 + 0, none⟩) else x.old 36), (35, true, bif e 0 then .slice (some ⟨bO, 0, none⟩) es.length es.length else x.old 35), (9, true, .pointer (some ⟨b9, 0, none⟩)), (5, true, .slice (some ⟨bO, 0, none⟩) es.length es.length), (6, true, .int .i64 (i : Int)), (20, true, .slice (some a) es.length cap), (21, true, .int .i64 (es.length : Int)), (22, true, .int .i64 (i : Int)), (29, true, .slice (some ae) ts.length p.2.t.t.2), (30, true, .int .i64 (ts.length : Int)), (31, true, .int .i64 (j : Int))])
        (fun x e => (bif e 10 then row w.heap.size x.O1 (some ⟨x.g1, 0, none⟩) (r.m + 1) x.c1 3 1 (r.xs ++ [.int .i64 (i : Int)]) else row w.heap.size r.O r.q r.m r.cap 3 1 r.xs) :: (rws w.heap.size 3 1 (fout M b)) :: (blk b9 105 [.int .i64 (b : Int), .slice u.2.1 u.1.args.length u.2.2]) :: (blk bO 35 (bif e 12 then (M.map slC).set (0 + (b : Int).toNat * 1) (.slice (some ⟨x.g1, 0, none⟩) (r.m + 1) x.c1) else M.map slC)) :: (bif e 9 then blk x.b1 3 [.int .i64 (i : Int)] else nothing) :: [])
        (fun old => ⟨w.heap.size, ⟨Nat.le_refl _, trivial⟩, 0, 0, fun _ => False, old⟩) (by kernel_rfl) (by kernel_rfl) (fun w hw => hw.drew) (fun old => by repeat (first | exact SubO.nil | apply SubO.cons rfl | refine SubO.old rfl ?_)) (fun old w' hw' => hw'.add_nothing) ?_ ?_
      · intro x e i o ho hei hd hcl
        have hi : i < 13 := (List.getElem?_eq_some_iff.1 ho).1
        obtain rfl | rfl | rfl | rfl | rfl | rfl | rfl | rfl | rfl | rfl | rfl | rfl | rfl : i = 0 ∨ i = 1 ∨ i = 2 ∨ i = 3 ∨ i = 4 ∨ i = 5 ∨ i = 6 ∨ i = 7 ∨ i = 8 ∨ i = 9 ∨ i = 10 ∨ i = 11 ∨ i = 12 := by omega
        · cases ho
          have v0 : Eng.upd e 0 0 = true := upd_eq
          simp only [hei, cond_true, cond_false]
          apply omv; rfl; rfl
          apply OL.nil
          exact At.beside x (by repeat (first | exact Sub.nil | apply Sub.cons rfl | refine Sub.cons_eq rfl (by simp only [v0, cond_true, cond_false]) ?_)) (fun w' hw' => by first | exact hw' | (simp only [v0, cond_true, cond_false]; exact hw'))
        · cases ho
          have v1 : Eng.upd e 1 1 = true := upd_eq
          simp only [hei, cond_true, cond_false]
          apply ofa; rfl; rfl; rfl
          apply OL.nil
          exact At.beside x (by repeat (first | exact Sub.nil | apply Sub.cons rfl | refine Sub.cons_eq rfl (by simp only [v1, cond_true, cond_false]) ?_)) (fun w' hw' => by first | exact hw' | (simp only [v1, cond_true, cond_false]; exact hw'))
        · cases ho
          have h1 : e 1 = true := hd ⟨1, .data⟩ (by simp) rfl
          have v2 : Eng.upd e 2 2 = true := upd_eq
          have v1 : Eng.upd e 2 1 = true := upd_mono h1
          simp only [hei, h1, cond_true, cond_false]
          apply old; rfl; rfl; exact .tail _ (.tail _ (.head _)); rfl; rfl
          apply OL.nil
          exact At.beside x (by repeat (first | exact Sub.nil | apply Sub.cons rfl | refine Sub.cons_eq rfl (by simp only [v2, v1, cond_true, cond_false]) ?_)) (fun w' hw' => by first | exact hw' | (simp only [v2, v1, cond_true, cond_false]; exact hw'))
        · cases ho
          have v3 : Eng.upd e 3 3 = true := upd_eq
          simp only [hei, cond_true, cond_false]
          apply omv; rfl; rfl
          apply OL.nil
          exact At.beside x (by repeat (first | exact Sub.nil | apply Sub.cons rfl | refine Sub.cons_eq rfl (by simp only [v3, cond_true, cond_false]) ?_)) (fun w' hw' => by first | exact hw' | (simp only [v3, cond_true, cond_false]; exact hw'))
        · cases ho
          have v4 : Eng.upd e 4 4 = true := upd_eq
          simp only [hei, cond_true, cond_false]
          apply ofa; rfl; rfl; rfl
          apply OL.nil
          exact At.beside x (by repeat (first | exact Sub.nil | apply Sub.cons rfl | refine Sub.cons_eq rfl (by simp only [v4, cond_true, cond_false]) ?_)) (fun w' hw' => by first | exact hw' | (simp only [v4, cond_true, cond_false]; exact hw'))
        · cases ho
          have h4 : e 4 = true := hd ⟨4, .data⟩ (by simp) rfl
          have v5 : Eng.upd e 5 5 = true := upd_eq
          have v4 : Eng.upd e 5 4 = true := upd_mono h4
          simp only [hei, h4, cond_true, cond_false]
          apply old; rfl; rfl; exact .tail _ (.tail _ (.head _)); rfl; rfl
          apply OL.nil
          exact At.beside x (by repeat (first | exact Sub.nil | apply Sub.cons rfl | refine Sub.cons_eq rfl (by simp only [v5, v4, cond_true, cond_false]) ?_)) (fun w' hw' => by first | exact hw' | (simp only [v5, v4, cond_true, cond_false]; exact hw'))
        · cases ho
          have h3 : e 3 = true := hd ⟨3, .data⟩ (by simp) rfl
          have h5 : e 5 = true := hd ⟨5, .data⟩ (by simp) rfl
          have v6 : Eng.upd e 6 6 = true := upd_eq
          have v3 : Eng.upd e 6 3 = true := upd_mono h3
          have v5 : Eng.upd e 6 5 = true := upd_mono h5
          simp only [hei, h3, h5, cond_true, cond_false]
          apply oop; rfl; apply Pev.idxB; rfl; exact yes; rfl; exact yes; rfl; intro hcond; omega; rfl
          apply OL.nil
          exact At.beside x (by repeat (first | exact Sub.nil | apply Sub.cons rfl | refine Sub.cons_eq rfl (by simp only [v6, v3, v5, cond_true, cond_false]) ?_)) (fun w' hw' => by first | exact hw' | (simp only [v6, v3, v5, cond_true, cond_false]; exact hw'))
        · cases ho
          have h6 : e 6 = true := hd ⟨6, .data⟩ (by simp) rfl
          have h12 : e 12 = false := hcl.not (i := 7) (j := 12) rfl hei (by kernel_rfl)
          have v7 : Eng.upd e 7 7 = true := upd_eq
          have v6 : Eng.upd e 7 6 = true := upd_mono h6
          have v12 : Eng.upd e 7 12 = false := h12
          simp only [hei, h6, h12, cond_true, cond_false]
          apply oop; rfl; apply Pev.load_blk; rfl; exact yes; apply List.Mem.tail; exact .tail _ (.tail _ (.head _)); rfl; assumption
          apply OL.nil
          exact At.beside x (by repeat (first | exact Sub.nil | apply Sub.cons rfl | refine Sub.cons_eq rfl (by simp only [v7, v6, v12, cond_true, cond_false]) ?_)) (fun w' hw' => by first | exact hw' | (simp only [v7, v6, v12, cond_true, cond_false]; exact hw'))
        · cases ho
          have v8 : Eng.upd e 8 8 = true := upd_eq
          simp only [hei, cond_true, cond_false]
          apply omv; rfl; rfl
          apply OL.nil
          exact At.beside x (by repeat (first | exact Sub.nil | apply Sub.cons rfl | refine Sub.cons_eq rfl (by simp only [v8, cond_true, cond_false]) ?_)) (fun w' hw' => by first | exact hw' | (simp only [v8, cond_true, cond_false]; exact hw'))
        · cases ho
          have h8 : e 8 = true := hd ⟨8, .data⟩ (by simp) rfl
          have v9 : Eng.upd e 9 9 = true := upd_eq
          have v8 : Eng.upd e 9 8 = true := upd_mono h8
          simp only [hei, h8, cond_true, cond_false]
          apply OL.buildSlice; rfl; rfl; rfl; exact Elems.au; rfl; rfl; (intro bk hbk; simp only [AllLe, and_true] at hbk)
          apply OL.nil
          exact At.beside { x with b1 := bk, hb1 := ⟨hbk, trivial⟩ } (by repeat (first | exact Sub.nil | apply Sub.cons rfl | refine Sub.cons_eq rfl (by simp only [v9, v8, cond_true, cond_false]) ?_)) (fun w' hw' => by simp only [v9, v8, cond_true, cond_false]; exact Cls.fill (p := 4) (H := _ :: _ :: _ :: _ :: _ :: []) (.s (.s (.s (.s .z)))) hw')
        · cases ho
          have h7 : e 7 = true := hd ⟨7, .data⟩ (by simp) rfl
          have h9 : e 9 = true := hd ⟨9, .data⟩ (by simp) rfl
          have h12 : e 12 = false := hcl.not (i := 10) (j := 12) rfl hei (by kernel_rfl)
          have v10 : Eng.upd e 10 10 = true := upd_eq
          have v7 : Eng.upd e 10 7 = true := upd_mono h7
          have v9 : Eng.upd e 10 9 = true := upd_mono h9
          have v12 : Eng.upd e 10 12 = false := h12
          simp only [hei, h7, h9, h12, cond_true, cond_false]
          apply OL.append; rfl; rfl; rfl; rfl; exact Hole.au; apply List.Mem.tail; apply List.Mem.tail; exact .tail _ (.tail _ (.head _)); exact Take.au; rfl; rfl; exact ⟨_, .head _, Nat.le_refl _⟩; omega; intro O1 g1 cap1
          apply OL.nil
          exact At.beside { x with g1 := g1, c1 := cap1, O1 := O1 } (by repeat (first | exact Sub.nil | apply Sub.cons rfl | refine Sub.cons_eq rfl (by simp only [v10, v7, v9, v12, cond_true, cond_false]) ?_)) (fun w' hw' => by first | exact hw' | (simp only [v10, v7, v9, v12, cond_true, cond_false]; exact hw'))
        · cases ho
          have h0 : e 0 = true := hd ⟨0, .data⟩ (by simp) rfl
          have h2 : e 2 = true := hd ⟨2, .data⟩ (by simp) rfl
          have v11 : Eng.upd e 11 11 = true := upd_eq
          have v0 : Eng.upd e 11 0 = true := upd_mono h0
          have v2 : Eng.upd e 11 2 = true := upd_mono h2
          simp only [hei, h0, h2, cond_true, cond_false]
          apply oop; rfl; apply Pev.idxB; rfl; exact yes; rfl; exact yes; rfl; intro hcond; omega; rfl
          apply OL.nil
          exact At.beside x (by repeat (first | exact Sub.nil | apply Sub.cons rfl | refine Sub.cons_eq rfl (by simp only [v11, v0, v2, cond_true, cond_false]) ?_)) (fun w' hw' => by first | exact hw' | (simp only [v11, v0, v2, cond_true, cond_false]; exact hw'))
        · cases ho
          have h10 : e 10 = true := hd ⟨10, .data⟩ (by simp) rfl
          have h11 : e 11 = true := hd ⟨11, .data⟩ (by simp) rfl
          have v12 : Eng.upd e 12 12 = true := upd_eq
          have v10 : Eng.upd e 12 10 = true := upd_mono h10
          have v11 : Eng.upd e 12 11 = true := upd_mono h11
          simp only [hei, h10, h11, cond_true, cond_false]
          apply OL.storeI
          rfl
          rfl
          rfl
          rfl
          rfl
          exact Swap.au
          · rw [List.length_map]; omega
          apply OL.nil
          exact At.beside x (by repeat (first | exact Sub.nil | apply Sub.cons rfl | refine Sub.cons_eq rfl (by simp only [v12, v10, v11, cond_true, cond_false]) ?_)) (fun w' hw' => by first | exact hw' | (simp only [v12, v10, v11, cond_true, cond_false]; exact hw'))
      · intro x e hall
        simp only [hall 0 (by decide), hall 1 (by decide), hall 2 (by decide), hall 3 (by decide), hall 4 (by decide), hall 5 (by decide), hall 6 (by decide), hall 7 (by decide), hall 8 (by decide), hall 9 (by decide), hall 10 (by decide), hall 11 (by decide), hall 12 (by decide), cond_true, cond_false]
        with_reducible apply At.in_normal
        with_reducible apply At.next
        apply W.reg
        apply obn; rfl; rfl; rfl; apply Bin.add_in; omega
        apply omv; rfl; rfl
        apply OL.nil
        have hlt3 : b < M.length := by omega
        have hcn : ∀ k : Nat, (l.take (j + 1)).count (k : Int) = (l.take j).count (k : Int) + if b = k then 1 else 0 := fun k => by
          rw [List.take_add_one, hlj, Option.toList_some, List.count_append, List.count_singleton, hb]
          by_cases e2 : b = k
          · rw [if_pos e2, if_pos (by rw [e2]; simp)]
          · rw [if_neg e2, if_neg (by simp; omega)]
        refine At.again (j + 1, M.set b ⟨x.O1, some ⟨x.g1, 0, none⟩, r.m + 1, x.c1, r.xs ++ [.int .i64 (i : Int)]⟩) ⟨by simp only; omega, hM.set ⟨?_, ?_⟩ fun k hk => ?_⟩ (by simp only; omega) (by exact Sub.au) (fun w' hw' => ?_)
        · simp only
          rw [hcn b, if_pos rfl, List.replicate_succ', ← List.append_assoc, ints_append, hrx]
          rfl
        · simp only
          rw [hcn b, if_pos rfl, List.replicate_succ', ← List.append_assoc, List.length_append, ← hrm]
          rfl
        · simp only
          rw [hcn k, if_neg (fun e2 => hk e2.symm), Nat.add_zero]
        · have h9 := hw'.rws_in hlt3
          have hx1 := x.hb1
          rw [show (M.map slC).set (0 + (b : Int).toNat * 1) (.slice (some ⟨x.g1, 0, none⟩) (r.m + 1) x.c1) = (M.set b ⟨x.O1, some ⟨x.g1, 0, none⟩, r.m + 1, x.c1, r.xs ++ [.int .i64 (i : Int)]⟩).map slC by
            rw [show 0 + (b : Int).toNat * 1 = b by omega]
            exact slC_set M b ⟨x.O1, some ⟨x.g1, 0, none⟩, r.m + 1, x.c1, r.xs ++ [.int .i64 (i : Int)]⟩] at h9
          exact h9.thin (.keep (.any (fun k hk => by rw [show k = b9 from hk]; exact ⟨hb91, trivial⟩) (.keep (.any (fun k hk => by rw [show k = x.b1 from hk]; exact hx1) Thin.nil))))
    · obtain rfl : j = ts.length := by omega
      refine W.xt ?_
      with_reducible apply At.in_normal
      with_reducible apply At.next
      apply W.reg
      apply obn; rfl; rfl; rfl; apply Bin.add_in; omega
      apply omv; rfl; rfl
      apply OL.nil
      refine At.again (i + 1, M) ⟨by simp only; omega, hM.congr fun k _ => ?_⟩ (by simp only; omega) (by exact Sub.au) (fun w' hw' => hw')
      simp only
      rw [hnx, ← hll, List.take_length]
  · obtain rfl : i = es.length := by omega
    refine W.xt ?_
    with_reducible apply At.next
    apply W.sr
    apply omv; rfl; rfl
    apply oas; rfl; rfl
    apply oas; rfl; rfl
    apply OL.nx
    apply W.ret
    ((with_reducible apply At.fin2); rfl; rfl; rfl; intro w' hw')
    refine .inr ⟨hf0, bO, L, rfl, hbO1, ?_, hw'⟩
    rw [← hGl, List.take_length] at hL
    rw [hGl] at hL
    simpa only [hbl2] using hL
end Go.Proofs.Ytehelljmaiophaa.ss

/- The walk of dom's build. Conditions: none. -/
namespace Go.Ss
set_option linter.unusedVariables false
set_option linter.unusedSimpArgs false
open Go.Eng
theorem ints_set (l : List Int) (o : Nat) (v : Int) : (ints l).set o (.int .i64 v) = ints (l.set o v) := by simp [ints, List.map_set]
theorem tabI_zero (n : Nat) : ints (tabI n fun _ => 0) = List.replicate n (Value.int .i64 0) := by
  apply List.ext_getElem?
  intro k
  simp only [ints, tabI, List.map_map, List.getElem?_map, List.getElem?_replicate, List.getElem?_range]
  by_cases h : k < n
  · simp [h]
  · simp [h]
theorem predsF_mem : ∀ {G : List (List Int)} {n : Nat} {k x : Int}, x ∈ predsF G n k ↔ ∃ (j : Nat) (l : List Int), G[j]? = some l ∧ k ∈ l ∧ x = ((n + j : Nat) : Int)
  | [], n, k, x => by simp [predsF]
  | l :: G, n, k, x => by
    rw [predsF, List.mem_append, predsF_mem]
    constructor
    · rintro (h | ⟨j, m, h1, h2, h3⟩)
      · obtain ⟨h1, rfl⟩ := List.mem_replicate.1 h
        exact ⟨0, l, rfl, List.one_le_count_iff.1 (by omega), rfl⟩
      · exact ⟨j + 1, m, h1, h2, by omega⟩
    · rintro ⟨j, m, h1, h2, h3⟩
      cases j with
      | zero =>
        simp only [List.getElem?_cons_zero, Option.some.injEq] at h1
        subst h1
        exact .inl (List.mem_replicate.2 ⟨by have := List.one_le_count_iff.2 h2; omega, by omega⟩)
      | succ j => exact .inr ⟨j, m, h1, h2, by omega⟩
theorem preds_edge {G : List (List Int)} {q k : Nat} : (q : Int) ∈ predsF G 0 (k : Int) ↔ Edge G q k := by
  rw [predsF_mem]
  constructor
  · rintro ⟨j, l, h1, h2, h3⟩
    obtain rfl : q = j := by omega
    exact ⟨l, h1, h2⟩
  · rintro ⟨l, h1, h2⟩
    exact ⟨q, l, h1, h2, by omega⟩
/-- what the loop over the predecessors has found -/
def NxJ (G : List (List Int)) (o : Nat → Option Nat) (l : List Int) : Option Nat → Prop
  | none => ∀ q : Nat, (q : Int) ∈ l → ¬ Pr G o q
  | some c => Pr G o c ∧ (∃ q : Nat, (q : Int) ∈ l ∧ Pr G o q) ∧ ∀ d, An o d c ↔ ∀ q : Nat, (q : Int) ∈ l → Pr G o q → An o d q
theorem NxJ.skip {G : List (List Int)} {o : Nat → Option Nat} {l : List Int} {z : Option Nat} {p : Nat} (h : NxJ G o l z) (hp : ¬ Pr G o p) : NxJ G o (l ++ [(p : Int)]) z := by
  have key : ∀ q : Nat, (q : Int) ∈ l ++ [(p : Int)] → Pr G o q → (q : Int) ∈ l := fun q hq hpr => by
    rcases List.mem_append.1 hq with hq | hq
    · exact hq
    · have := List.mem_singleton.1 hq
      obtain rfl : q = p := by omega
      exact absurd hpr hp
  cases z with
  | none => exact fun q hq hpr => h q (key q hq hpr) hpr
  | some c =>
    obtain ⟨h1, ⟨q, h2, h3⟩, h4⟩ := h
    exact ⟨h1, ⟨q, by simp [h2], h3⟩, fun d => (h4 d).trans ⟨fun h5 q hq hpr => h5 q (key q hq hpr) hpr, fun h5 q hq hpr => h5 q (by simp [hq]) hpr⟩⟩
theorem NxJ.first {G : List (List Int)} {o : Nat → Option Nat} {l : List Int} {p : Nat} (h : NxJ G o l none) (hp : Pr G o p) : NxJ G o (l ++ [(p : Int)]) (some p) := by
  refine ⟨hp, ⟨p, by simp, hp⟩, fun d => ⟨fun h1 q hq hpr => ?_, fun h1 => h1 p (by simp) hp⟩⟩
  rcases List.mem_append.1 hq with hq | hq
  · exact absurd hpr (h q hq)
  · have := List.mem_singleton.1 hq
    obtain rfl : q = p := by omega
    exact h1
theorem NxJ.next {G : List (List Int)} {o : Nat → Option Nat} {l : List Int} {p c c' : Nat} (h : NxJ G o l (some c)) (hp : Pr G o p) (hc : Pr G o c') (hd : ∀ d, An o d c' ↔ An o d c ∧ An o d p) : NxJ G o (l ++ [(p : Int)]) (some c') := by
  refine ⟨hc, ⟨p, by simp, hp⟩, fun d => ?_⟩
  rw [hd, h.2.2 d]
  constructor
  · rintro ⟨h1, h2⟩ q hq hpr
    rcases List.mem_append.1 hq with hq | hq
    · exact h1 q hq hpr
    · have := List.mem_singleton.1 hq
      obtain rfl : q = p := by omega
      exact h2
  · exact fun h1 => ⟨fun q hq hpr => h1 q (by simp [hq]) hpr, h1 p (by simp) hp⟩
theorem NxJ.done {G : List (List Int)} {o : Nat → Option Nat} {k : Nat} {z : Option Nat} (h : NxJ G o (predsF G 0 (k : Int)) z) (hq : ∃ q, Rc G (-1) q ∧ Edge G q k ∧ Pr G o q) : ∃ c, z = some c ∧ Nx G o k c := by
  obtain ⟨q, h1, h2, h3⟩ := hq
  cases z with
  | none => exact absurd h3 (h q (preds_edge.2 h2))
  | some c => exact ⟨c, rfl, h.1, ⟨q, h1, h2, h3⟩, fun d => (h.2.2 d).trans ⟨fun h5 q _ hq hpr => h5 q (preds_edge.2 hq) hpr, fun h5 q hq hpr => h5 q hpr.1 (preds_edge.1 hq) hpr⟩⟩
theorem ovI_some (p : Nat) : ovI (some p) = (p : Int) := rfl
theorem ovI_none : ovI none = -1 := rfl
theorem pr_dec {G : List (List Int)} (hG : ∀ l ∈ G, ∀ e ∈ l, 0 ≤ e ∧ e < (G.length : Int)) (h0 : 0 < G.length) {o : Nat → Option Nat} {p : Nat} : (decide (plc0 G p < 0) || !decide ((p : Int) = 0) && decide (ovI (o p) < 0)) = true ↔ ¬ Pr G o p := by
  have h1 := plc0_iff hG h0 p
  have h2 : ovI (o p) < 0 ↔ o p = none := by
    cases o p with
    | none => simp [ovI]
    | some c => simp only [ovI, reduceCtorEq, iff_false]; omega
  have h3 : (p : Int) = 0 ↔ p = 0 := by omega
  rw [Bool.or_eq_true, Bool.and_eq_true, Bool.not_eq_true', decide_eq_true_iff, decide_eq_false_iff_not, decide_eq_true_iff, h2, h3]
  unfold Pr
  rw [← h1]
  cases ho : o p with
  | none => simp only [Option.isSome_none, Bool.false_eq_true, or_false, and_true]; omega
  | some c => simp only [Option.isSome_some, or_true, and_true, reduceCtorEq, and_false, or_false]; omega
end Go.Ss
namespace Go.Eng
set_option linter.unusedVariables false
set_option linter.unusedSimpArgs false
theorem W.frzD {P : Program} {n : Nat} {Q : Exit → Act → World → Prop} {l : Env} {C : World → Prop} {code : Code} {C' : World → World → Prop} (hc : ∀ w0, C w0 → C' w0 w0) (h : ∀ w0, C w0 → W P n code Q l (C' w0)) : W P n code Q l C := ⟨fun a w s c => (h w c).run a w s (hc w c)⟩
theorem blkIntsF {w w' : World} {b : Nat} {e : TypeId} {l : List Int} (hb : (blk b e (Go.Ss.ints l)).holds w') (h : w.heap.size ≤ b) : Go.Ss.IntsO w' (fresh w w') l (some ⟨b, 0, none⟩) :=
  fun _ => ⟨_, rfl, ⟨h, blk_lt hb⟩, fun j v hj => by rw [add_mid, blk_cell hb, Nat.zero_add]; exact hj⟩
theorem OL.frzD {P : Program} {n : Nat} {Q : Exit → Act → World → Prop} {l : Env} {C : World → Prop} {ops : Array Oper} {rest : List Oper} {C' : World → World → Prop} (hc : ∀ w0, C w0 → C' w0 w0) (h : ∀ w0, C w0 → OL P n ops Q rest l (C' w0)) : OL P n ops Q rest l C := ⟨fun a w s c => (h w c).run a w s (hc w c)⟩
end Go.Eng
namespace Go.Proofs.Ytehelljmaiophaa.ss
set_option linter.unusedVariables false
set_option linter.unusedSimpArgs false
set_option maxRecDepth 100000
open Go.Eng Go.RowKit Go.Ss
set_option linter.unusedVariables false
set_option linter.unusedSimpArgs false
structure XDm (B : Nat) where
  b33 : Nat
  h33 : B ≤ b33
  b37 : Nat
  h37 : B ≤ b37
  b8 : Nat
  h8 : B ≤ b8
  old : Nat → Value
structure XDo where
  old : Nat → Value
theorem dbuild_calls (fn : Go.Ss.Fn) (y : FnY) (w : World) (hfn : FnOk w (low w) fn y) :
    Calls Try.prog 90 [.agg (fnC fn y).toArray].toArray w fun e w' => Ext w w' ∧ ((funcE fn ≠ 0 ∧ e = .returned (.tuple #[.agg #[.slice none 0 0, .slice none 0 0], .int .i64 (funcE fn)])) ∨
      (funcE fn = 0 ∧ ∃ bI bP o, e = .returned (.tuple #[.agg #[.slice (some ⟨bI, 0, none⟩) fn.blocks.length fn.blocks.length, .slice (some ⟨bP, 0, none⟩) fn.blocks.length fn.blocks.length], .int .i64 0]) ∧ IntsO w' (fresh w w') (tabI fn.blocks.length fun k => ovI (o k)) (some ⟨bI, 0, none⟩) ∧ IntsO w' (fresh w w') (tabI fn.blocks.length (plc0 (graphB fn.blocks))) (some ⟨bP, 0, none⟩) ∧
        EndR (graphB fn.blocks) (plN (graphB fn.blocks)) o ∧ ∀ a k, Rc (graphB fn.blocks) (-1) k → (An o a k ↔ Dm (graphB fn.blocks) a k))) := by
  have hfn0 := hfn
  obtain ⟨es, hes, he⟩ := hfn.b
  obtain ⟨nm, bs⟩ := fn
  obtain ⟨q, cap⟩ := y
  have hbl := hfn.bl
  simp only at hes he hbl ⊢
  have hbl2 : bs.length = es.length := by rw [← hes, List.length_map]
  have hF : ∀ (H : List Eng.Item) (S : List World) (w2 : World), Cls H S w2 → w ∈ S → (∀ k, k < w.heap.size → NotOwned H k) → FnOk w2 (low w2) ⟨nm, bs⟩ ⟨q, cap⟩ := fun H S w2 hw2 hs hno => fnR.mono (hw2.up hs) (fnR.stab (hw2.same hs hno) hfn0)
  obtain ⟨G, hG⟩ : ∃ G, graphB bs = G := ⟨_, rfl⟩
  have hGl : G.length = es.length := by rw [← hG]; simp [graphB, hbl2]
  have hcC : (fnC ⟨nm, bs⟩ ⟨q, cap⟩) = [.int .i64 nm, .slice q G.length cap] := by simp only [fnC]; rw [hbl2, hGl]
  have hOr := fun w2 (H : List Eng.Item) (S : List World) hw2 hs hno => Order_calls ⟨nm, bs⟩ ⟨q, cap⟩ w2 (hF H S w2 hw2 hs hno)
  have hPr := fun w2 (H : List Eng.Item) (S : List World) hw2 hs hno => CPredsC_calls ⟨nm, bs⟩ ⟨q, cap⟩ w2 (hF H S w2 hw2 hs hno)
  obtain ⟨er, her⟩ : ∃ er, funcE ⟨nm, bs⟩ = er := ⟨_, rfl⟩
  rw [hcC, her, hG]
  simp only [hcC, her, hbl2, hG, ← hGl, ← ordL.eq_1] at hOr hPr
  refine enter Try.func90 rfl Try.ntmps90 rfl (Cls.start w) ?_
  (simp only [argEnv, Nat.zero_add, Nat.reduceAdd])
  apply W.sr
  apply OL.box; rfl; rfl; exact CellsL.agg; (intro bk hbk; simp only [AllLe, and_true] at hbk)
  apply OL.alloc; rfl; rfl; exact CellsL.agg; (intro bk hbk; simp only [AllLe, and_true] at hbk)
  apply oas; rfl; rfl
  apply OL.nsr
  apply oop; rfl; apply Pev.load_blkA; rfl; exact yes; exact .tail _ (.head _); rfl; exact Take.au
  rename_i b1 hb1
  revert bk
  intro bR hbR
  have hbR1 : w.heap.size ≤ bR := by first | exact hbR | exact hbR.1
  have hb11 : w.heap.size ≤ b1 := by first | exact hb1 | exact hb1.1
  by_cases hne : er ≠ 0
  · (((first | (with_reducible apply OL.op) | (with_reducible apply QL.op)); (exact Guard.au); rfl; rfl); (exact Pev.call (v := .tuple #[.slice none 0 0, .int .i64 er]) rfl (by exact Args.au) (fun _ w2 hw2 => (hOr w2 _ _ hw2 (by exact mau) (fun k hk => NotOwned.blk (by omega) (NotOwned.blk (by omega) NotOwned.nil))).mono (fun e w3 h => by
      rcases h with ⟨_, h2, h3⟩ | ⟨h1, _⟩
      · exact ⟨h2, hw2.ext h3⟩
      · exact absurd h1 hne))))
    apply omv; rfl; rfl
    apply oex; rfl; rfl; rfl
    apply oex; rfl; rfl; rfl
    apply oas; rfl; rfl
    apply oas; rfl; rfl
    apply OL.nx
    apply W.seq
    apply W.sr
    apply omv; rfl; rfl
    apply obn; rfl; rfl; rfl; apply Bin.neq
    apply OL.nx
    refine W.cond rfl (fun _ => ?_) (fun h => by simp at h; exact absurd h hne)
    apply W.sr
    apply oop; rfl; apply Pev.build; rfl; exact CellsL.agg; rfl; exact Fill.au; rfl
    apply omv; rfl; rfl
    apply OL.storeB; rfl; rfl; exact CellsL.agg; rfl; rfl; rfl; exact Swap.au; exact Put.au
    apply oas; rfl; rfl
    apply OL.nx
    refine W.rt ?_
    refine At.finCT rfl rfl (.head _) rfl rfl rfl (fun w' hw' => ?_)
    exact ⟨hw'.toExt (by exact mau) (fun k hk => NotOwned.blk (by omega) (NotOwned.blk (by omega) NotOwned.nil)), .inl ⟨hne, rfl⟩⟩
  obtain rfl : er = 0 := Classical.not_not.1 hne
  refine OL.callE (α := (Nat → Prop) × Option Addr × Nat × Nat) (fun z => .tuple #[.slice z.2.1 (ordL G).length z.2.2.1, .int .i64 0]) (fun z => w.heap.size ≤ z.2.2.2) (fun z => Cls [row z.2.2.2 z.1 z.2.1 (ordL G).length z.2.2.1 3 1 (ints (ordL G)), blk bR 135 [.slice none 0 0, .slice none 0 0], blk b1 24 [.int .i64 nm, .slice q G.length cap]] [w]) rfl rfl (by exact Args.au) (fun w2 hw2 => (hOr w2 _ _ hw2 (by exact mau) (fun k hk => NotOwned.blk (by omega) (NotOwned.blk (by omega) NotOwned.nil))).mono fun e w3 h => ?_) ?_
  · rcases h with ⟨h3, _⟩ | ⟨_, O, q', c', h4, h5⟩
    · exact absurd rfl h3
    · exact ⟨(O, q', c', w2.heap.size), h4, (hw2.kp w (.head _)).size, hw2.plus h5 (fun k hk => hk.1)⟩
  rintro ⟨Oo, qo, co, B1⟩ hB1
  simp only at hB1 ⊢
  apply omv; rfl; rfl
  apply oex; rfl; rfl; rfl
  apply oex; rfl; rfl; rfl
  apply oas; rfl; rfl
  apply oas; rfl; rfl
  apply OL.nx
  apply W.seq
  apply W.sr
  apply omv; rfl; rfl
  apply obn; rfl; rfl; rfl; apply Bin.neq
  apply OL.nx
  refine W.cond rfl (fun h => by simp at h) (fun _ => ?_)
  apply W.sk
  apply W.sr
  apply oop; rfl; apply Pev.load_blkA; rfl; exact yes; exact .tail _ (.tail _ (.head _)); rfl; exact Take.au
  refine OL.callE (α := List Rw × Nat × Nat) (fun z => .tuple #[.slice (some ⟨z.2.1, 0, none⟩) G.length G.length, .int .i64 0]) (fun z => w.heap.size ≤ z.2.2 ∧ w.heap.size ≤ z.2.1 ∧ RwsOf z.1 G.length (fun k => predsF G 0 (k : Int))) (fun z => Cls [rws z.2.2 3 1 (fun j => z.1[j]?), blk z.2.1 35 (z.1.map slC), row B1 Oo qo (ordL G).length co 3 1 (ints (ordL G)), blk bR 135 [.slice none 0 0, .slice none 0 0], blk b1 24 [.int .i64 nm, .slice q G.length cap]] [w]) rfl rfl (by exact Args.au) (fun w2 hw2 => (hPr w2 _ _ hw2 (by exact mau) (fun k hk => NotOwned.row (by omega) (NotOwned.blk (by omega) (NotOwned.blk (by omega) NotOwned.nil)))).mono fun e w3 h => ?_) ?_
  · rcases h with ⟨h3, _⟩ | ⟨_, bO, L, h4, h5, h6, h7⟩
    · exact absurd rfl h3
    · have h8 := (hw2.kp w (.head _)).size
      exact ⟨(L, bO, w2.heap.size), h4, ⟨h8, Nat.le_trans h8 h5, h6⟩, hw2.plus2 h7 (.head _) (fun k ⟨_, r, _, hk⟩ => hk.1) (fun k hk => by rw [show k = bO from hk]; exact h5)⟩
  rintro ⟨L, bO, B2⟩ ⟨hB2, hbO, hL⟩
  simp only at hB2 hbO hL ⊢
  obtain ⟨h0, h128, hs0⟩ := func_zero her
  simp only at h0 h128 hs0
  have hGE : ∀ l ∈ G, ∀ x ∈ l, 0 ≤ x ∧ x < (G.length : Int) := fun l hl x hx => by
    rw [← hG] at hl
    obtain ⟨b, hb, rfl⟩ := List.mem_map.1 hl
    obtain ⟨e, he, rfl⟩ := List.mem_map.1 hx
    have := shape_edges hs0 b hb e he
    omega
  have hGM : ∀ l ∈ G, l.length ≤ 257 := fun l hl => by
    rw [← hG] at hl
    obtain ⟨b, hb, rfl⟩ := List.mem_map.1 hl
    rw [List.length_map]
    exact to_len hs0 hb
  have hG0 : 0 < G.length := by omega
  have hGn : G.length ≤ 128 := by omega
  have hord := ordOk hGE hG0
  have hol := ordL_len hGE hG0
  apply omv; rfl; rfl
  apply oex; rfl; rfl; rfl
  apply oex; rfl; rfl; rfl
  apply oas; rfl; rfl
  apply oas; rfl; rfl
  apply OL.nx
  apply W.seq
  refine W.regany (X := XDm w.heap.size) (fun x e => [(8, true, bif e 9 then .pointer (some ⟨x.b8, 0, none⟩) else x.old 8), (38, true, bif e 8 then .agg #[.slice (some ⟨x.b33, 0, none⟩) G.length G.length, .slice (some ⟨x.b37, 0, none⟩) G.length G.length] else x.old 38), (37, true, bif e 7 then .slice (some ⟨x.b37, 0, none⟩) G.length G.length else x.old 37), (36, true, bif e 6 then .int .i64 (G.length : Int) else x.old 36), (35, true, bif e 5 then .slice q G.length cap else x.old 35), (34, true, bif e 4 then .pointer (some ⟨b1, 0 + 1, none⟩) else x.old 34), (33, true, bif e 3 then .slice (some ⟨x.b33, 0, none⟩) G.length G.length else x.old 33), (32, true, bif e 2 then .int .i64 (G.length : Int) else x.old 32), (31, true, bif e 1 then .slice q G.length cap else x.old 31), (30, true, bif e 0 then .pointer (some ⟨b1, 0 + 1, none⟩) else x.old 30), (2, true, .pointer (some ⟨bR, 0, none⟩)), (1, true, .pointer (some ⟨b1, 0, none⟩)), (4, true, .slice qo (ordL G).length co), (6, true, .slice (some ⟨bO, 0, none⟩) G.length G.length), (3, true, .int .i64 0)])
    (fun x e => (rws B2 3 1 (fun j => L[j]?)) :: (blk bO 35 (L.map slC)) :: (row B1 Oo qo (ordL G).length co 3 1 (ints (ordL G))) :: (blk bR 135 [.slice none 0 0, .slice none 0 0]) :: (blk b1 24 [.int .i64 nm, .slice q G.length cap]) :: (bif e 3 then blk x.b33 3 (List.replicate G.length (.int .i64 0)) else nothing) :: (bif e 7 then blk x.b37 3 (List.replicate G.length (.int .i64 0)) else nothing) :: (bif e 9 then blk x.b8 135 (bif e 10 then [.slice (some ⟨x.b33, 0, none⟩) G.length G.length, .slice (some ⟨x.b37, 0, none⟩) G.length G.length] else [.slice none 0 0, .slice none 0 0]) else nothing) :: [])
    (fun old => ⟨w.heap.size, Nat.le_refl _, w.heap.size, Nat.le_refl _, w.heap.size, Nat.le_refl _, old⟩) (by kernel_rfl) (by kernel_rfl) (fun w hw => hw.drew) (fun old => by repeat (first | exact SubO.nil | apply SubO.cons rfl | refine SubO.old rfl ?_)) (fun old w' hw' => hw'.add_nothing.add_nothing.add_nothing) ?_ ?_
  · intro x e i o ho hei hd hcl
    have hi : i < 11 := (List.getElem?_eq_some_iff.1 ho).1
    obtain rfl | rfl | rfl | rfl | rfl | rfl | rfl | rfl | rfl | rfl | rfl : i = 0 ∨ i = 1 ∨ i = 2 ∨ i = 3 ∨ i = 4 ∨ i = 5 ∨ i = 6 ∨ i = 7 ∨ i = 8 ∨ i = 9 ∨ i = 10 := by omega
    · cases ho
      have v0 : Eng.upd e 0 0 = true := upd_eq
      simp only [hei, cond_true, cond_false]
      apply ofa; rfl; rfl; rfl
      apply OL.nil
      exact At.beside x (by repeat (first | exact Sub.nil | apply Sub.cons rfl | refine Sub.cons_eq rfl (by simp only [v0, cond_true, cond_false]) ?_)) (fun w' hw' => by first | exact hw' | (simp only [v0, cond_true, cond_false]; exact hw'))
    · cases ho
      have h0 : e 0 = true := hd ⟨0, .data⟩ (by simp) rfl
      have v1 : Eng.upd e 1 1 = true := upd_eq
      have v0 : Eng.upd e 1 0 = true := upd_mono h0
      simp only [hei, h0, cond_true, cond_false]
      have hx33 := x.h33
      have hx37 := x.h37
      have hx8 := x.h8
      apply old; rfl; rfl; apply List.Mem.tail; apply List.Mem.tail; exact .tail _ (.tail _ (.head _)); rfl; rfl
      apply OL.nil
      exact At.beside x (by repeat (first | exact Sub.nil | apply Sub.cons rfl | refine Sub.cons_eq rfl (by simp only [v1, v0, cond_true, cond_false]) ?_)) (fun w' hw' => by first | exact hw' | (simp only [v1, v0, cond_true, cond_false]; exact hw'))
    · cases ho
      have h1 : e 1 = true := hd ⟨1, .data⟩ (by simp) rfl
      have v2 : Eng.upd e 2 2 = true := upd_eq
      have v1 : Eng.upd e 2 1 = true := upd_mono h1
      simp only [hei, h1, cond_true, cond_false]
      apply oop; rfl; apply Pev.len_slice; rfl; exact yes; rfl
      apply OL.nil
      exact At.beside x (by repeat (first | exact Sub.nil | apply Sub.cons rfl | refine Sub.cons_eq rfl (by simp only [v2, v1, cond_true, cond_false]) ?_)) (fun w' hw' => by first | exact hw' | (simp only [v2, v1, cond_true, cond_false]; exact hw'))
    · cases ho
      have h2 : e 2 = true := hd ⟨2, .data⟩ (by simp) rfl
      have h8 : e 8 = false := hcl.not (i := 3) (j := 8) rfl hei (by kernel_rfl)
      have h10 : e 10 = false := hcl.not (i := 8) (j := 10) rfl h8 (by kernel_rfl)
      have v3 : Eng.upd e 3 3 = true := upd_eq
      have v2 : Eng.upd e 3 2 = true := upd_mono h2
      have v8 : Eng.upd e 3 8 = false := h8
      have v10 : Eng.upd e 3 10 = false := h10
      simp only [hei, h2, h8, h10, cond_true, cond_false]
      have hx33 := x.h33
      have hx37 := x.h37
      have hx8 := x.h8
      apply OL.makeSlice; rfl; rfl; rfl; rfl; rfl; rfl; rfl; omega; (intro bk hbk; simp only [AllLe, and_true] at hbk)
      apply OL.nil
      exact At.beside { x with b33 := bk, h33 := hbk } (by repeat (first | exact Sub.nil | apply Sub.cons rfl | refine Sub.cons_eq rfl (by simp only [v3, v2, v8, v10, cond_true, cond_false]) ?_)) (fun w' hw' => by simp only [v3, v2, v8, v10, cond_true, cond_false]; exact Cls.fill (p := 5) (H := _ :: _ :: _ :: _ :: _ :: _ :: _ :: _ :: []) (.s (.s (.s (.s (.s .z))))) hw')
    · cases ho
      have v4 : Eng.upd e 4 4 = true := upd_eq
      simp only [hei, cond_true, cond_false]
      apply ofa; rfl; rfl; rfl
      apply OL.nil
      exact At.beside x (by repeat (first | exact Sub.nil | apply Sub.cons rfl | refine Sub.cons_eq rfl (by simp only [v4, cond_true, cond_false]) ?_)) (fun w' hw' => by first | exact hw' | (simp only [v4, cond_true, cond_false]; exact hw'))
    · cases ho
      have h4 : e 4 = true := hd ⟨4, .data⟩ (by simp) rfl
      have v5 : Eng.upd e 5 5 = true := upd_eq
      have v4 : Eng.upd e 5 4 = true := upd_mono h4
      simp only [hei, h4, cond_true, cond_false]
      have hx33 := x.h33
      have hx37 := x.h37
      have hx8 := x.h8
      apply old; rfl; rfl; apply List.Mem.tail; apply List.Mem.tail; exact .tail _ (.tail _ (.head _)); rfl; rfl
      apply OL.nil
      exact At.beside x (by repeat (first | exact Sub.nil | apply Sub.cons rfl | refine Sub.cons_eq rfl (by simp only [v5, v4, cond_true, cond_false]) ?_)) (fun w' hw' => by first | exact hw' | (simp only [v5, v4, cond_true, cond_false]; exact hw'))
    · cases ho
      have h5 : e 5 = true := hd ⟨5, .data⟩ (by simp) rfl
      have v6 : Eng.upd e 6 6 = true := upd_eq
      have v5 : Eng.upd e 6 5 = true := upd_mono h5
      simp only [hei, h5, cond_true, cond_false]
      apply oop; rfl; apply Pev.len_slice; rfl; exact yes; rfl
      apply OL.nil
      exact At.beside x (by repeat (first | exact Sub.nil | apply Sub.cons rfl | refine Sub.cons_eq rfl (by simp only [v6, v5, cond_true, cond_false]) ?_)) (fun w' hw' => by first | exact hw' | (simp only [v6, v5, cond_true, cond_false]; exact hw'))
    · cases ho
      have h6 : e 6 = true := hd ⟨6, .data⟩ (by simp) rfl
      have h8 : e 8 = false := hcl.not (i := 7) (j := 8) rfl hei (by kernel_rfl)
      have h10 : e 10 = false := hcl.not (i := 8) (j := 10) rfl h8 (by kernel_rfl)
      have v7 : Eng.upd e 7 7 = true := upd_eq
      have v6 : Eng.upd e 7 6 = true := upd_mono h6
      have v8 : Eng.upd e 7 8 = false := h8
      have v10 : Eng.upd e 7 10 = false := h10
      simp only [hei, h6, h8, h10, cond_true, cond_false]
      have hx33 := x.h33
      have hx37 := x.h37
      have hx8 := x.h8
      apply OL.makeSlice; rfl; rfl; rfl; rfl; rfl; rfl; rfl; omega; (intro bk hbk; simp only [AllLe, and_true] at hbk)
      apply OL.nil
      exact At.beside { x with b37 := bk, h37 := hbk } (by repeat (first | exact Sub.nil | apply Sub.cons rfl | refine Sub.cons_eq rfl (by simp only [v7, v6, v8, v10, cond_true, cond_false]) ?_)) (fun w' hw' => by simp only [v7, v6, v8, v10, cond_true, cond_false]; exact Cls.fill (p := 6) (H := _ :: _ :: _ :: _ :: _ :: _ :: _ :: _ :: []) (.s (.s (.s (.s (.s (.s .z)))))) hw')
    · cases ho
      have h3 : e 3 = true := hd ⟨3, .data⟩ (by simp) rfl
      have h7 : e 7 = true := hd ⟨7, .data⟩ (by simp) rfl
      have v8 : Eng.upd e 8 8 = true := upd_eq
      have v3 : Eng.upd e 8 3 = true := upd_mono h3
      have v7 : Eng.upd e 8 7 = true := upd_mono h7
      simp only [hei, h3, h7, cond_true, cond_false]
      apply oop; rfl; apply Pev.build; rfl; exact CellsL.agg; rfl; exact Fill.au; rfl
      apply OL.nil
      exact At.beside x (by repeat (first | exact Sub.nil | apply Sub.cons rfl | refine Sub.cons_eq rfl (by simp only [v8, v3, v7, cond_true, cond_false]) ?_)) (fun w' hw' => by first | exact hw' | (simp only [v8, v3, v7, cond_true, cond_false]; exact hw'))
    · cases ho
      have h10 : e 10 = false := hcl.not (i := 9) (j := 10) rfl hei (by kernel_rfl)
      have v9 : Eng.upd e 9 9 = true := upd_eq
      have v10 : Eng.upd e 9 10 = false := h10
      simp only [hei, h10, cond_true, cond_false]
      have hx33 := x.h33
      have hx37 := x.h37
      have hx8 := x.h8
      apply OL.alloc; rfl; rfl; exact CellsL.agg; (intro bk hbk; simp only [AllLe, and_true] at hbk)
      apply OL.nil
      exact At.beside { x with b8 := bk, h8 := hbk } (by repeat (first | exact Sub.nil | apply Sub.cons rfl | refine Sub.cons_eq rfl (by simp only [v9, v10, cond_true, cond_false]) ?_)) (fun w' hw' => by simp only [v9, v10, cond_true, cond_false]; exact Cls.fill (p := 7) (H := _ :: _ :: _ :: _ :: _ :: _ :: _ :: _ :: []) (.s (.s (.s (.s (.s (.s (.s .z))))))) hw')
    · cases ho
      have h8 : e 8 = true := hd ⟨8, .data⟩ (by simp) rfl
      have h9 : e 9 = true := hd ⟨9, .data⟩ (by simp) rfl
      have v10 : Eng.upd e 10 10 = true := upd_eq
      have v8 : Eng.upd e 10 8 = true := upd_mono h8
      have v9 : Eng.upd e 10 9 = true := upd_mono h9
      simp only [hei, h8, h9, cond_true, cond_false]
      have hx33 := x.h33
      have hx37 := x.h37
      have hx8 := x.h8
      apply OL.storeB; rfl; rfl; exact CellsL.agg; rfl; rfl; rfl; exact Swap.au; exact Put.au
      apply OL.nil
      exact At.beside x (by repeat (first | exact Sub.nil | apply Sub.cons rfl | refine Sub.cons_eq rfl (by simp only [v10, v8, v9, cond_true, cond_false]) ?_)) (fun w' hw' => by first | exact hw' | (simp only [v10, v8, v9, cond_true, cond_false]; exact hw'))
  intro x e hall
  obtain ⟨bI, hbI, bP, hbP, bG, hbG, old⟩ := x
  simp only [hall 0 (by decide), hall 1 (by decide), hall 2 (by decide), hall 3 (by decide), hall 4 (by decide), hall 5 (by decide), hall 6 (by decide), hall 7 (by decide), hall 8 (by decide), hall 9 (by decide), hall 10 (by decide), cond_true, cond_false]
  with_reducible apply At.next
  apply W.seq
  apply W.sr
  apply ofa; rfl; rfl; rfl
  apply oop; rfl; apply Pev.load_blk; rfl; exact yes; apply List.Mem.tail; apply List.Mem.tail; apply List.Mem.tail; apply List.Mem.tail; apply List.Mem.tail; exact .tail _ (.tail _ (.head _)); rfl; rfl
  apply oop; rfl; apply Pev.len_slice; rfl; exact yes; rfl
  apply omv; rfl; rfl
  apply OL.nx
  apply W.block
  rw [show List.replicate G.length (Value.int .i64 0) = ints (tabI G.length fun k => 0) by rw [tabI_zero]]
  refine W.loop (G := Nat) (fun i => i ≤ G.length) (fun i => G.length - i)
    (fun i => [(2, true, .pointer (some ⟨bR, 0, none⟩)), (4, true, .slice qo (ordL G).length co), (6, true, .slice (some ⟨bO, 0, none⟩) G.length G.length), (8, true, .pointer (some ⟨bG, 0, none⟩)), (41, true, .int .i64 (G.length : Int)), (42, true, .int .i64 (i : Int))])
    (fun i => Cls [rws B2 3 1 (fun j => L[j]?), blk bO 35 (L.map slC), row B1 Oo qo (ordL G).length co 3 1 (ints (ordL G)), blk bR 135 [.slice none 0 0, .slice none 0 0], blk bI 3 (ints (tabI G.length fun k => if k < i then -1 else 0)), blk bP 3 (ints (tabI G.length fun k => if k < i then plc0 G k else 0)), blk bG 135 [.slice (some ⟨bI, 0, none⟩) G.length G.length, .slice (some ⟨bP, 0, none⟩) G.length G.length]] [w])
    0 (by omega) (by exact Sub.au) (fun w' hw' => by simp only [Nat.not_lt_zero, if_false]; exact hw'.thin (.keep (.keep (.keep (.keep (.any (fun k hk => by rw [show k = b1 from hk]; exact ⟨hb11, trivial⟩) (.keep (.keep (.keep Thin.nil))))))))) ?_
  intro i hi
  apply W.sr
  apply obn; rfl; rfl; rfl; apply Bin.lss
  apply OL.nx
  apply W.seq
  (refine W.cnd (fun hlt => ?_) (fun hlt => ?_)) <;> (try (exfalso; first | omega | exact hlt trivial | contradiction))
  · have hil : i < G.length := by omega
    have hSI : (ints (tabI G.length fun k => if k < i then -1 else 0)).set (0 + (i : Int).toNat * 1) (.int .i64 (-1)) = ints (tabI G.length fun k => if k < i + 1 then -1 else 0) := by
      rw [show 0 + (i : Int).toNat * 1 = i by omega, ints_set, tabI_set]
      exact congrArg ints (tabI_congr fun k _ => by split <;> split <;> first | rfl | omega)
    have hSP : (ints (tabI G.length fun k => if k < i then plc0 G k else 0)).set (0 + (i : Int).toNat * 1) (.int .i64 (plc0 G i)) = ints (tabI G.length fun k => if k < i + 1 then plc0 G k else 0) := by
      rw [show 0 + (i : Int).toNat * 1 = i by omega, ints_set, tabI_set]
      exact congrArg ints (tabI_congr fun k _ => by
        by_cases e : k = i
        · subst e; rw [if_pos rfl, if_pos (by omega)]
        · rw [if_neg e]
          split <;> split <;> first | rfl | omega)
    apply W.sk
    apply W.sb
    apply W.sr
    apply omv; rfl; rfl
    apply oas; rfl; rfl
    apply OL.nx
    refine W.regany (X := XDo) (fun x e => [(55, true, bif e 11 then .pointer (some ⟨bP, 0 + (i : Int).toNat * 1, none⟩) else x.old 55), (54, true, bif e 9 then .pointer (some ⟨bI, 0 + (i : Int).toNat * 1, none⟩) else x.old 54), (53, true, bif e 8 then .int .i64 (plc0 G i) else x.old 53), (52, true, bif e 7 then .int .i64 (i : Int) else x.old 52), (51, true, bif e 6 then .slice qo (ordL G).length co else x.old 51), (50, true, bif e 5 then .int .i64 (i : Int) else x.old 50), (49, true, bif e 4 then .slice (some ⟨bP, 0, none⟩) G.length G.length else x.old 49), (48, true, bif e 3 then .pointer (some ⟨bG, 0 + 1, none⟩) else x.old 48), (47, true, bif e 2 then .int .i64 (i : Int) else x.old 47), (46, true, bif e 1 then .slice (some ⟨bI, 0, none⟩) G.length G.length else x.old 46), (45, true, bif e 0 then .pointer (some ⟨bG, 0 + 0, none⟩) else x.old 45), (2, true, .pointer (some ⟨bR, 0, none⟩)), (4, true, .slice qo (ordL G).length co), (6, true, .slice (some ⟨bO, 0, none⟩) G.length G.length), (8, true, .pointer (some ⟨bG, 0, none⟩)), (9, true, .int .i64 (i : Int)), (41, true, .int .i64 (G.length : Int)), (42, true, .int .i64 (i : Int))])
      (fun x e => (rws B2 3 1 (fun j => L[j]?)) :: (blk bO 35 (L.map slC)) :: (row B1 Oo qo (ordL G).length co 3 1 (ints (ordL G))) :: (blk bR 135 [.slice none 0 0, .slice none 0 0]) :: (blk bI 3 (bif e 10 then ints (tabI G.length fun k => if k < i + 1 then -1 else 0) else ints (tabI G.length fun k => if k < i then -1 else 0))) :: (blk bP 3 (bif e 12 then ints (tabI G.length fun k => if k < i + 1 then plc0 G k else 0) else ints (tabI G.length fun k => if k < i then plc0 G k else 0))) :: (blk bG 135 [.slice (some ⟨bI, 0, none⟩) G.length G.length, .slice (some ⟨bP, 0, none⟩) G.length G.length]) :: [])
      (fun old => ⟨old⟩) (by kernel_rfl) (by kernel_rfl) (fun w hw => hw.drew) (fun old => by repeat (first | exact SubO.nil | apply SubO.cons rfl | refine SubO.old rfl ?_)) (fun old w' hw' => hw') ?_ ?_
    · intro x e i o ho hei hd hcl
      have hi : i < 13 := (List.getElem?_eq_some_iff.1 ho).1
      obtain rfl | rfl | rfl | rfl | rfl | rfl | rfl | rfl | rfl | rfl | rfl | rfl | rfl : i = 0 ∨ i = 1 ∨ i = 2 ∨ i = 3 ∨ i = 4 ∨ i = 5 ∨ i = 6 ∨ i = 7 ∨ i = 8 ∨ i = 9 ∨ i = 10 ∨ i = 11 ∨ i = 12 := by omega
      · cases ho
        have v0 : Eng.upd e 0 0 = true := upd_eq
        simp only [hei, cond_true, cond_false]
        apply ofa; rfl; rfl; rfl
        apply OL.nil
        exact At.beside x (by repeat (first | exact Sub.nil | apply Sub.cons rfl | refine Sub.cons_eq rfl (by simp only [v0, cond_true, cond_false]) ?_)) (fun w' hw' => by first | exact hw' | (simp only [v0, cond_true, cond_false]; exact hw'))
      · cases ho
        have h0 : e 0 = true := hd ⟨0, .data⟩ (by simp) rfl
        have v1 : Eng.upd e 1 1 = true := upd_eq
        have v0 : Eng.upd e 1 0 = true := upd_mono h0
        simp only [hei, h0, cond_true, cond_false]
        apply oop; rfl; apply Pev.load_blk; rfl; exact yes; apply List.Mem.tail; apply List.Mem.tail; apply List.Mem.tail; apply List.Mem.tail; exact .tail _ (.tail _ (.head _)); rfl; rfl
        apply OL.nil
        exact At.beside x (by repeat (first | exact Sub.nil | apply Sub.cons rfl | refine Sub.cons_eq rfl (by simp only [v1, v0, cond_true, cond_false]) ?_)) (fun w' hw' => by first | exact hw' | (simp only [v1, v0, cond_true, cond_false]; exact hw'))
      · cases ho
        have v2 : Eng.upd e 2 2 = true := upd_eq
        simp only [hei, cond_true, cond_false]
        apply omv; rfl; rfl
        apply OL.nil
        exact At.beside x (by repeat (first | exact Sub.nil | apply Sub.cons rfl | refine Sub.cons_eq rfl (by simp only [v2, cond_true, cond_false]) ?_)) (fun w' hw' => by first | exact hw' | (simp only [v2, cond_true, cond_false]; exact hw'))
      · cases ho
        have v3 : Eng.upd e 3 3 = true := upd_eq
        simp only [hei, cond_true, cond_false]
        apply ofa; rfl; rfl; rfl
        apply OL.nil
        exact At.beside x (by repeat (first | exact Sub.nil | apply Sub.cons rfl | refine Sub.cons_eq rfl (by simp only [v3, cond_true, cond_false]) ?_)) (fun w' hw' => by first | exact hw' | (simp only [v3, cond_true, cond_false]; exact hw'))
      · cases ho
        have h3 : e 3 = true := hd ⟨3, .data⟩ (by simp) rfl
        have v4 : Eng.upd e 4 4 = true := upd_eq
        have v3 : Eng.upd e 4 3 = true := upd_mono h3
        simp only [hei, h3, cond_true, cond_false]
        apply oop; rfl; apply Pev.load_blk; rfl; exact yes; apply List.Mem.tail; apply List.Mem.tail; apply List.Mem.tail; apply List.Mem.tail; exact .tail _ (.tail _ (.head _)); rfl; rfl
        apply OL.nil
        exact At.beside x (by repeat (first | exact Sub.nil | apply Sub.cons rfl | refine Sub.cons_eq rfl (by simp only [v4, v3, cond_true, cond_false]) ?_)) (fun w' hw' => by first | exact hw' | (simp only [v4, v3, cond_true, cond_false]; exact hw'))
      · cases ho
        have v5 : Eng.upd e 5 5 = true := upd_eq
        simp only [hei, cond_true, cond_false]
        apply omv; rfl; rfl
        apply OL.nil
        exact At.beside x (by repeat (first | exact Sub.nil | apply Sub.cons rfl | refine Sub.cons_eq rfl (by simp only [v5, cond_true, cond_false]) ?_)) (fun w' hw' => by first | exact hw' | (simp only [v5, cond_true, cond_false]; exact hw'))
      · cases ho
        have v6 : Eng.upd e 6 6 = true := upd_eq
        simp only [hei, cond_true, cond_false]
        apply omv; rfl; rfl
        apply OL.nil
        exact At.beside x (by repeat (first | exact Sub.nil | apply Sub.cons rfl | refine Sub.cons_eq rfl (by simp only [v6, cond_true, cond_false]) ?_)) (fun w' hw' => by first | exact hw' | (simp only [v6, cond_true, cond_false]; exact hw'))
      · cases ho
        have v7 : Eng.upd e 7 7 = true := upd_eq
        simp only [hei, cond_true, cond_false]
        apply omv; rfl; rfl
        apply OL.nil
        exact At.beside x (by repeat (first | exact Sub.nil | apply Sub.cons rfl | refine Sub.cons_eq rfl (by simp only [v7, cond_true, cond_false]) ?_)) (fun w' hw' => by first | exact hw' | (simp only [v7, cond_true, cond_false]; exact hw'))
      · cases ho
        have h6 : e 6 = true := hd ⟨6, .data⟩ (by simp) rfl
        have h7 : e 7 = true := hd ⟨7, .data⟩ (by simp) rfl
        have v8 : Eng.upd e 8 8 = true := upd_eq
        have v6 : Eng.upd e 8 6 = true := upd_mono h6
        have v7 : Eng.upd e 8 7 = true := upd_mono h7
        simp only [hei, h6, h7, cond_true, cond_false]
        (((first | (with_reducible apply OL.op) | (with_reducible apply QL.op)); (exact Guard.au); rfl; rfl); (refine Pev.call (v := .int .i64 (plc0 G i)) rfl (by exact Args.au) (fun _ w2 hw2 => (IIndex_calls qo co (ordL G) (i : Int) w2 (by omega) (rowIntsL hw2 (.tail _ (.tail _ (.head _))))).mono (fun e w3 h => ⟨h.1, hw2.ext h.2⟩))))
        apply OL.nil
        exact At.beside x (by repeat (first | exact Sub.nil | apply Sub.cons rfl | refine Sub.cons_eq rfl (by simp only [v8, v6, v7, cond_true, cond_false]) ?_)) (fun w' hw' => by first | exact hw' | (simp only [v8, v6, v7, cond_true, cond_false]; exact hw'))
      · cases ho
        have h1 : e 1 = true := hd ⟨1, .data⟩ (by simp) rfl
        have h2 : e 2 = true := hd ⟨2, .data⟩ (by simp) rfl
        have v9 : Eng.upd e 9 9 = true := upd_eq
        have v1 : Eng.upd e 9 1 = true := upd_mono h1
        have v2 : Eng.upd e 9 2 = true := upd_mono h2
        simp only [hei, h1, h2, cond_true, cond_false]
        apply oop; rfl; apply Pev.idxB; rfl; exact yes; rfl; exact yes; rfl; intro hcond; omega; rfl
        apply OL.nil
        exact At.beside x (by repeat (first | exact Sub.nil | apply Sub.cons rfl | refine Sub.cons_eq rfl (by simp only [v9, v1, v2, cond_true, cond_false]) ?_)) (fun w' hw' => by first | exact hw' | (simp only [v9, v1, v2, cond_true, cond_false]; exact hw'))
      · cases ho
        have h9 : e 9 = true := hd ⟨9, .data⟩ (by simp) rfl
        have v10 : Eng.upd e 10 10 = true := upd_eq
        have v9 : Eng.upd e 10 9 = true := upd_mono h9
        simp only [hei, h9, cond_true, cond_false]
        apply OL.storeI
        rfl
        rfl
        rfl
        rfl
        rfl
        exact Swap.au
        · rw [ints_length, tabI_length]; omega
        rw [hSI]
        apply OL.nil
        exact At.beside x (by repeat (first | exact Sub.nil | apply Sub.cons rfl | refine Sub.cons_eq rfl (by simp only [v10, v9, cond_true, cond_false]) ?_)) (fun w' hw' => by first | exact hw' | (simp only [v10, v9, cond_true, cond_false]; exact hw'))
      · cases ho
        have h4 : e 4 = true := hd ⟨4, .data⟩ (by simp) rfl
        have h5 : e 5 = true := hd ⟨5, .data⟩ (by simp) rfl
        have v11 : Eng.upd e 11 11 = true := upd_eq
        have v4 : Eng.upd e 11 4 = true := upd_mono h4
        have v5 : Eng.upd e 11 5 = true := upd_mono h5
        simp only [hei, h4, h5, cond_true, cond_false]
        apply oop; rfl; apply Pev.idxB; rfl; exact yes; rfl; exact yes; rfl; intro hcond; omega; rfl
        apply OL.nil
        exact At.beside x (by repeat (first | exact Sub.nil | apply Sub.cons rfl | refine Sub.cons_eq rfl (by simp only [v11, v4, v5, cond_true, cond_false]) ?_)) (fun w' hw' => by first | exact hw' | (simp only [v11, v4, v5, cond_true, cond_false]; exact hw'))
      · cases ho
        have h8 : e 8 = true := hd ⟨8, .data⟩ (by simp) rfl
        have h11 : e 11 = true := hd ⟨11, .data⟩ (by simp) rfl
        have v12 : Eng.upd e 12 12 = true := upd_eq
        have v8 : Eng.upd e 12 8 = true := upd_mono h8
        have v11 : Eng.upd e 12 11 = true := upd_mono h11
        simp only [hei, h8, h11, cond_true, cond_false]
        apply OL.storeI
        rfl
        rfl
        rfl
        rfl
        rfl
        exact Swap.au
        · rw [ints_length, tabI_length]; omega
        rw [hSP]
        apply OL.nil
        exact At.beside x (by repeat (first | exact Sub.nil | apply Sub.cons rfl | refine Sub.cons_eq rfl (by simp only [v12, v8, v11, cond_true, cond_false]) ?_)) (fun w' hw' => by first | exact hw' | (simp only [v12, v8, v11, cond_true, cond_false]; exact hw'))
    intro x e hall
    simp only [hall 0 (by decide), hall 1 (by decide), hall 2 (by decide), hall 3 (by decide), hall 4 (by decide), hall 5 (by decide), hall 6 (by decide), hall 7 (by decide), hall 8 (by decide), hall 9 (by decide), hall 10 (by decide), hall 11 (by decide), hall 12 (by decide), cond_true, cond_false]
    with_reducible apply At.in_normal
    with_reducible apply At.next
    apply W.reg
    apply obn; rfl; rfl; rfl; apply Bin.add_in; omega
    apply omv; rfl; rfl
    apply OL.nil
    exact At.again (i + 1) (by omega) (by omega) (by exact Sub.au) (fun w' hw' => hw')
  obtain rfl : i = G.length := by omega
  rw [show (tabI G.length fun k => if k < G.length then -1 else 0) = tabI G.length fun k => ovI ((fun _ => none : Nat → Option Nat) k) from tabI_congr fun k hk => if_pos hk,
    show (tabI G.length fun k => if k < G.length then plc0 G k else 0) = tabI G.length (plc0 G) from tabI_congr fun k hk => if_pos hk]
  refine W.xt ?_
  with_reducible apply At.next
  apply W.seq
  apply W.sr
  apply oas; rfl; rfl
  apply OL.nx
  apply W.block
  have hw0 : Wf G (plN G) (fun _ => none) := ⟨fun k p h => by (cases h), fun k p h => by (cases h)⟩
  refine W.loop (G := (Nat → Option Nat) × Bool) (fun z => Wf G (plN G) z.1 ∧ ((∀ j, z.1 j = none) ∨ EndR G (plN G) z.1) ∧ (z.2 = false → EndR G (plN G) z.1 ∧ ∀ k, Rc G (-1) k → k ≠ 0 → ∃ c, z.1 k = some c ∧ Nx G z.1 k c)) (fun z => 2 * muO G.length (plN G) z.1 + if z.2 then 1 else 0)
    (fun z => [(2, true, .pointer (some ⟨bR, 0, none⟩)), (4, true, .slice qo (ordL G).length co), (6, true, .slice (some ⟨bO, 0, none⟩) G.length G.length), (8, true, .pointer (some ⟨bG, 0, none⟩)), (10, true, .bool z.2)])
    (fun z => Cls [rws B2 3 1 (fun j => L[j]?), blk bO 35 (L.map slC), row B1 Oo qo (ordL G).length co 3 1 (ints (ordL G)), blk bR 135 [.slice none 0 0, .slice none 0 0], blk bI 3 (ints (tabI G.length fun k => ovI (z.1 k))), blk bP 3 (ints (tabI G.length (plc0 G))), blk bG 135 [.slice (some ⟨bI, 0, none⟩) G.length G.length, .slice (some ⟨bP, 0, none⟩) G.length G.length]] [w])
    (fun _ => none, true) ⟨hw0, .inl fun _ => rfl, fun h => by cases h⟩ (by exact Sub.au) (fun w' hw' => hw') ?_
  rintro ⟨o0, ag⟩ ⟨hwf0, hcase, hfix⟩
  simp only at hwf0 hcase hfix ⊢
  apply W.seq
  apply W.sr
  apply omv; rfl; rfl
  apply OL.nx
  cases ag with
  | false =>
    refine W.cond rfl (fun h => by cases h) (fun _ => ?_)
    obtain ⟨hend, hfix⟩ := hfix rfl
    refine W.xt ?_
    with_reducible apply At.next
    apply W.sr
    apply oop; rfl; apply Pev.load_blkA; rfl; exact yes; apply List.Mem.tail; apply List.Mem.tail; apply List.Mem.tail; apply List.Mem.tail; exact .tail _ (.tail _ (.head _)); rfl; exact Take.au
    apply OL.storeB; rfl; rfl; exact CellsL.agg; rfl; rfl; rfl; exact Swap.au; exact Put.au
    apply oas; rfl; rfl
    apply OL.nx
    apply W.ret
    refine At.finCT rfl rfl (.tail _ (.tail _ (.tail _ (.head _)))) rfl rfl rfl (fun w' hw' => ?_)
    refine ⟨hw'.toExt (by exact mau) (fun k hk => NotOwned.rws (by omega) (NotOwned.blk (by omega) (NotOwned.row (by omega) (NotOwned.blk (by omega) (NotOwned.blk (by omega) (NotOwned.blk (by omega) (NotOwned.blk (by omega) NotOwned.nil))))))), .inr ⟨by trivial, bI, bP, o0, ?_⟩⟩
    rw [hbl2, ← hGl]
    exact ⟨rfl, blkIntsF (hw'.item (by exact mau)) hbI, blkIntsF (hw'.item (by exact mau)) hbP, hend, fun a k hk => dom_done hord hend hfix hk⟩
  | true =>
    refine W.cond rfl (fun _ => ?_) (fun h => by cases h)
    apply W.sk
    apply W.block
    apply W.sr
    apply oas; rfl; rfl
    apply OL.nsr
    apply omv; rfl; rfl
    refine OL.frzD (C' := fun _ => Cls [rws B2 3 1 (fun j => L[j]?), blk bO 35 (L.map slC), row B1 Oo qo (ordL G).length co 3 1 (ints (ordL G)), blk bR 135 [.slice none 0 0, .slice none 0 0], blk bI 3 (ints (tabI G.length fun k => ovI (o0 k))), blk bP 3 (ints (tabI G.length (plc0 G))), blk bG 135 [.slice (some ⟨bI, 0, none⟩) G.length G.length, .slice (some ⟨bP, 0, none⟩) G.length G.length]] [w]) (fun w0 hc0 => hc0) (fun w0 hc0 => ?_)
    have hcap := row_cap (hc0.item (.tail _ (.tail _ (.head _))))
    have ho0 := ordL_head hGE hG0
    have hl1 : 0 < (ordL G).length := (List.getElem?_eq_some_iff.1 ho0).1
    obtain ⟨ao, hqo⟩ : ∃ ao, qo = some ao := by
      obtain ⟨ao, _, hqo, _⟩ := (rowIntsL hc0 (.tail _ (.tail _ (.head _)))).get hl1
      exact ⟨ao, hqo⟩
    subst hqo
    clear hc0 w0
    (((first | (with_reducible apply OL.op) | (with_reducible apply QL.op)); (exact Guard.au); rfl; rfl); (exact Pev.slice_lo (i := 1) rfl (by simp) rfl (by simp) rfl rfl (fun _ => by omega)))
    apply oop; rfl; apply Pev.len_slice; rfl; exact yes; rfl
    apply omv; rfl; rfl
    apply OL.nx
    apply W.block
    refine W.loop (G := Nat × (Nat → Option Nat) × Bool) (fun z => z.1 + 1 ≤ (ordL G).length ∧ RI G (plN G) o0 z.2.1 (z.1 + 1) ∧ ((z.2.2 = false ∧ z.2.1 = o0 ∧ ∀ k, Rc G (-1) k → k ≠ 0 → plN G k < z.1 + 1 → ∃ c, o0 k = some c ∧ Nx G o0 k c) ∨ (z.2.2 = true ∧ muO G.length (plN G) z.2.1 < muO G.length (plN G) o0))) (fun z => (ordL G).length - z.1)
      (fun z => [(2, true, .pointer (some ⟨bR, 0, none⟩)), (4, true, .slice (some ao) (ordL G).length co), (6, true, .slice (some ⟨bO, 0, none⟩) G.length G.length), (8, true, .pointer (some ⟨bG, 0, none⟩)), (10, true, .bool z.2.2), (59, true, .slice (cutq (some ao) co 1 1) ((ordL G).length - 1) (co - 1)), (60, true, .int .i64 (((ordL G).length - 1 : Nat) : Int)), (61, true, .int .i64 (z.1 : Int))])
      (fun z => Cls [rws B2 3 1 (fun j => L[j]?), blk bO 35 (L.map slC), row B1 Oo (some ao) (ordL G).length co 3 1 (ints (ordL G)), blk bR 135 [.slice none 0 0, .slice none 0 0], blk bI 3 (ints (tabI G.length fun k => ovI (z.2.1 k))), blk bP 3 (ints (tabI G.length (plc0 G))), blk bG 135 [.slice (some ⟨bI, 0, none⟩) G.length G.length, .slice (some ⟨bP, 0, none⟩) G.length G.length]] [w])
      (0, o0, false) ⟨by simp only; omega, RI.start hord hwf0, .inl ⟨rfl, rfl, fun k hk hk0 hkl => absurd (hord.inj k 0 hk (.zero (by decide) hG0) (by rw [hord.zero]; simp only at hkl; omega)) hk0⟩⟩ (by exact Sub.au) (fun w' hw' => hw') ?_
    rintro ⟨i, o, ag⟩ ⟨hi, hRI, hag⟩
    simp only at hi hRI hag ⊢
    apply W.sr
    apply obn; rfl; rfl; rfl; apply Bin.lss
    apply OL.nx
    apply W.seq
    (refine W.cnd (fun hlt => ?_) (fun hlt => ?_)) <;> (try (exfalso; first | omega | exact hlt trivial | contradiction))
    · have hil : i + 1 < (ordL G).length := by omega
      refine W.frzD (C' := fun w0 => Cls [] [w0]) (fun w0 hc0 => Cls.start w0) (fun w0 hc0 => ?_)
      have hIo := rowIntsL hc0 (.tail _ (.tail _ (.head _)))
      obtain ⟨a2, v2, h21, habo, hv2, hco2⟩ := hIo.get hil
      obtain rfl := Option.some.inj h21
      have habo : ao.block < w0.heap.size := habo
      obtain ⟨k, hvk, hkr⟩ := (ordL_mem hGE hG0 v2).1 (List.mem_of_getElem? hv2)
      subst hvk
      have hpk := plN_get hGE hG0 hv2
      have hk0 : k ≠ 0 := fun e => by rw [e, hord.zero] at hpk; omega
      have hkl := hkr.lt
      obtain ⟨r, hr⟩ : ∃ r, L[k]? = some r := ⟨_, List.getElem?_eq_getElem (by rw [hL.1]; exact hkl)⟩
      obtain ⟨hrx, hrm⟩ := hL.2 k r hr
      simp only at hrx hrm
      have hIp : IntsO w0 (low w0) (predsF G 0 (k : Int)) r.q := by
        have h9 := hc0.rws_out hr
        rw [hrx] at h9
        exact rowIntsL h9 (.head _)
      have hII : IntsO w0 (low w0) (tabI G.length fun k => ovI (o k)) (some ⟨bI, 0, none⟩) := blkInts (hc0.item (by exact mau))
      have hIP : IntsO w0 (low w0) (tabI G.length (plc0 G)) (some ⟨bP, 0, none⟩) := blkInts (hc0.item (by exact mau))
      have hbO0 : bO < w0.heap.size := blk_lt (hc0.item (.tail _ (.head _)))
      have hbG0 : bG < w0.heap.size := blk_lt (hc0.item (.tail _ (.tail _ (.tail _ (.tail _ (.tail _ (.tail _ (.head _))))))))
      have hbI0 : bI < w0.heap.size := blk_lt (hc0.item (.tail _ (.tail _ (.tail _ (.tail _ (.head _))))))
      have hbP0 : bP < w0.heap.size := blk_lt (hc0.item (.tail _ (.tail _ (.tail _ (.tail _ (.tail _ (.head _)))))))
      have hcG : CellsAt w0 ⟨bG, 0, none⟩ [.slice (some ⟨bI, 0, none⟩) G.length G.length, .slice (some ⟨bP, 0, none⟩) G.length G.length] := fun j v hj => by
        rw [add_mid, blk_cell (hc0.item (.tail _ (.tail _ (.tail _ (.tail _ (.tail _ (.tail _ (.head _)))))))), Nat.zero_add]
        exact hj
      have hcG0 : w0.cell? ⟨bG, 0 + 0, none⟩ = some (.slice (some ⟨bI, 0, none⟩) G.length G.length) := hcG 0 _ rfl
      have hcG1 : w0.cell? ⟨bG, 0 + 1, none⟩ = some (.slice (some ⟨bP, 0, none⟩) G.length G.length) := hcG 1 _ rfl
      have hcO : w0.cell? ⟨bO, 0 + (k : Int).toNat * 1, none⟩ = some (.slice r.q r.m r.cap) := by
        rw [blk_cell (hc0.item (.tail _ (.head _))), show 0 + (k : Int).toNat * 1 = k by omega, List.getElem?_map, hr]
        rfl
      obtain ⟨a1, ha1⟩ : ∃ a1, ao.add (1 * 1) = a1 := ⟨_, rfl⟩
      rw [show cutq (some ao) co 1 1 = some a1 by unfold cutq; rw [if_neg (by omega), ← ha1]; rfl]
      have hab1 : a1.block < w0.heap.size := by rw [← ha1, add_block]; exact habo
      have hco3 : w0.cell? (a1.add (i * 1)) = some (.int .i64 (k : Int)) := by
        rw [← ha1, add_add, show 1 * 1 + i * 1 = (i + 1) * 1 by omega]
        exact hco2
      have hPl : (predsF G 0 (k : Int)).length ≤ 128 * 257 := Nat.le_trans (predsF_len (M := 257) hGM) (Nat.mul_le_mul_right _ hGn)
      have hPx : ∀ x ∈ predsF G 0 (k : Int), ∃ p : Nat, x = (p : Int) ∧ p < G.length := fun x hx => by
        obtain ⟨p, l, h1, _, h3⟩ := predsF_mem.1 hx
        exact ⟨p, by omega, (List.getElem?_eq_some_iff.1 h1).1⟩
      obtain ⟨P, hPe⟩ : ∃ P, predsF G 0 (k : Int) = P := ⟨_, rfl⟩
      rw [hPe] at hIp hrm hPl hPx
      apply W.sk
      apply W.sb
      apply W.sr
      apply oop; rfl; apply Pev.idx; rfl; exact yes; rfl; exact yes; rfl; rfl; intro hcond; omega
      apply oop; rfl; apply Pev.load_kept; rfl; exact yes; exact .head _; rfl; intro hcond; assumption; intro hcond; (rw [add_block]; assumption); intro hcond; exact NotOwned.au
      apply oas; rfl; rfl
      apply OL.nsr
      apply oas; rfl; rfl
      apply OL.nx
      apply W.seq
      apply W.sr
      apply omv; rfl; rfl
      apply omv; rfl; rfl
      apply oop; rfl; apply Pev.idxB; rfl; exact yes; rfl; exact yes; rfl; intro hcond; omega; rfl
      apply oop; rfl; apply Pev.load_kept; rfl; exact yes; exact .head _; rfl; intro hcond; assumption; intro hcond; assumption; intro hcond; exact NotOwned.au
      apply oop; rfl; apply Pev.len_slice; rfl; exact yes; rfl
      apply omv; rfl; rfl
      apply OL.nx
      apply W.block
      refine W.loop (G := Nat × Option Nat) (fun z => z.1 ≤ r.m ∧ NxJ G o (P.take z.1) z.2) (fun z => r.m - z.1)
        (fun z => [(2, true, .pointer (some ⟨bR, 0, none⟩)), (4, true, .slice (some ao) (ordL G).length co), (6, true, .slice (some ⟨bO, 0, none⟩) G.length G.length), (8, true, .pointer (some ⟨bG, 0, none⟩)), (10, true, .bool ag), (12, true, .int .i64 (k : Int)), (13, true, .int .i64 (ovI z.2)), (59, true, .slice (some a1) ((ordL G).length - 1) (co - 1)), (60, true, .int .i64 (((ordL G).length - 1 : Nat) : Int)), (61, true, .int .i64 (i : Int)), (68, true, .slice r.q r.m r.cap), (69, true, .int .i64 (r.m : Int)), (70, true, .int .i64 (z.1 : Int))])
        (fun z => Cls [] [w0]) (0, none) ⟨by simp, fun q hq => by simp at hq⟩ (by simp only [ovI_none]; exact Sub.au) (fun w' hw' => hw') ?_
      rintro ⟨j, z⟩ ⟨hj, hz⟩
      simp only at hj hz ⊢
      apply W.sr
      apply obn; rfl; rfl; rfl; apply Bin.lss
      apply OL.nx
      apply W.seq
      (refine W.cnd (fun hlt2 => ?_) (fun hlt2 => ?_)) <;> (try (exfalso; first | omega | exact hlt2 trivial | contradiction))
      · have hjl : j < P.length := by omega
        obtain ⟨ap, x, hqp, habp, hx, hcx⟩ := hIp.get hjl
        obtain ⟨p, rfl, hpl⟩ := hPx x (List.mem_of_getElem? hx)
        have habp : ap.block < w0.heap.size := habp
        obtain ⟨aI, v1, hqI, habI, hv1, hc1⟩ := hII.get (show p < (tabI G.length fun k => ovI (o k)).length by rw [tabI_length]; exact hpl)
        rw [tabI_get hpl] at hv1
        obtain rfl := Option.some.inj hv1
        obtain rfl := Option.some.inj hqI
        obtain ⟨aP, v2, hqP, habP, hv2, hc2⟩ := hIP.get (show p < (tabI G.length (plc0 G)).length by rw [tabI_length]; exact hpl)
        rw [tabI_get hpl] at hv2
        obtain rfl := Option.some.inj hv2
        obtain rfl := Option.some.inj hqP
        rw [add_mid] at hc1 hc2
        have htk : P.take (j + 1) = P.take j ++ [(p : Int)] := by rw [List.take_add_one, hx]; rfl
        rw [hqp]
        apply W.sk
        apply W.sb
        apply W.sr
        apply oop; rfl; apply Pev.idx; rfl; exact yes; rfl; exact yes; rfl; rfl; intro hcond; omega
        apply oop; rfl; apply Pev.load_kept; rfl; exact yes; exact .head _; rfl; intro hcond; assumption; intro hcond; (rw [add_block]; assumption); intro hcond; exact NotOwned.au
        apply oas; rfl; rfl
        apply OL.nx
        apply W.block
        apply W.sr
        apply ofa; rfl; rfl; rfl
        apply oop; rfl; apply Pev.load_kept; rfl; exact yes; exact .head _; rfl; intro hcond; assumption; intro hcond; assumption; intro hcond; exact NotOwned.au
        apply omv; rfl; rfl
        apply oop; rfl; apply Pev.idxB; rfl; exact yes; rfl; exact yes; rfl; intro hcond; omega; rfl
        apply oop; rfl; apply Pev.load_kept; rfl; exact yes; exact .head _; rfl; intro hcond; assumption; intro hcond; assumption; intro hcond; exact NotOwned.au
        apply obn; rfl; rfl; rfl; apply Bin.lss
        apply omv; rfl; rfl
        apply ono; rfl; rfl; rfl; apply Pev.move; rfl; exact yes
        apply ono; rfl; rfl; rfl; apply Pev.bin; rfl; exact fun h => h; rfl; exact yes; intro hcond; apply Bin.neq
        apply ono; rfl; rfl; rfl; apply Pev.move; rfl; exact fun h => h
        apply OL.op; exact Guard.cyes rfl rfl; rfl; rfl; apply Pev.fld; rfl; exact yes; rfl
        apply OL.op; exact Guard.cyes rfl rfl; rfl; rfl; apply Pev.load_kept; rfl; exact fun h => h; exact .head _; rfl; intro hcond; assumption; intro hcond; assumption; intro hcond; exact NotOwned.au
        apply OL.op; exact Guard.cyes rfl rfl; rfl; rfl; apply Pev.move; rfl; exact yes
        apply OL.op; exact Guard.cyes rfl rfl; rfl; rfl; apply Pev.idxB; rfl; exact fun h => h; rfl; exact fun h => h; rfl; intro hcond; omega; rfl
        apply OL.op; exact Guard.cyes rfl rfl; rfl; rfl; apply Pev.load_kept; rfl; exact fun h => h; exact .head _; rfl; intro hcond; assumption; intro hcond; assumption; intro hcond; exact NotOwned.au
        apply OL.op; exact Guard.cyes rfl rfl; rfl; rfl; apply Pev.bin; rfl; exact fun h => h; rfl; exact yes; intro hcond; apply Bin.lss
        apply ono; rfl; rfl; rfl; apply Pev.pick_and; rfl; exact fun h => h; rfl; exact fun h => h
        apply oop; rfl; apply Pev.pick_or; rfl; exact yes; rfl; exact fun h => h
        apply oas; rfl; rfl
        apply OL.nx
        refine W.cond rfl (fun h3 => ?_) (fun h3 => ?_)
        · have hnp := (pr_dec hGE hG0).1 h3
          apply W.skip
          with_reducible apply At.in_normal
          with_reducible apply At.in_normal
          with_reducible apply At.next
          apply W.reg
          apply obn; rfl; rfl; rfl; apply Bin.add_in; omega
          apply omv; rfl; rfl
          apply OL.nil
          exact At.again (j + 1, z) ⟨by simp only; omega, by simp only; rw [htk]; exact hz.skip hnp⟩ (by simp only; omega) (by exact Sub.au) (fun w' hw' => hw')
        have hpp : Pr G o p := Classical.byContradiction fun h4 => by
          rw [(pr_dec hGE hG0).2 h4] at h3
          cases h3
        apply W.sr
        apply omv; rfl; rfl
        apply obn; rfl; rfl; rfl; apply Bin.lss
        apply oas; rfl; rfl
        apply OL.nx
        cases z with
        | none =>
          simp only [ovI_some, ovI_none]
          refine W.cond rfl (fun _ => ?_) (fun h4 => by simp at h4)
          apply W.reg
          apply omv; rfl; rfl
          apply oas; rfl; rfl
          apply OL.nil
          with_reducible apply At.in_normal
          with_reducible apply At.in_normal
          with_reducible apply At.next
          apply W.reg
          apply obn; rfl; rfl; rfl; apply Bin.add_in; omega
          apply omv; rfl; rfl
          apply OL.nil
          exact At.again (j + 1, some p) ⟨by simp only; omega, by simp only; rw [htk]; exact hz.first hpp⟩ (by simp only; omega) (by exact Sub.au) (fun w' hw' => hw')
        | some c =>
          simp only [ovI_some, ovI_none]
          refine W.cond rfl (fun h4 => absurd (of_decide_eq_true h4) (by omega)) (fun _ => ?_)
          apply W.reg
          apply oop; rfl; apply Pev.load_keptA; rfl; exact yes; exact .head _; rfl; intro hcond; assumption; rfl; intro hcond; assumption; intro hcond; exact NotOwned.au
          apply omv; rfl; rfl
          apply omv; rfl; rfl
          refine OL.callE (α := Nat) (fun u => .int .i64 (u : Int)) (fun u => Pr G o u ∧ ∀ d, An o d u ↔ An o d c ∧ An o d p) (fun _ => Cls [] [w0]) rfl rfl (by exact Args.au) (fun w2 hw2 => (meet_calls G hGE hG0 o hRI.w (some ⟨bI, 0, none⟩) (some ⟨bP, 0, none⟩) G.length G.length c p w2 (hII.at hw2 (.head _) (fun k hk => NotOwned.nil)) (hIP.at hw2 (.head _) (fun k hk => NotOwned.nil)) (by omega) hz.1 hpp).mono fun e w3 ⟨u, h5, h6, h7, h8⟩ => ⟨u, h5, ⟨h6, h7⟩, hw2.ext h8⟩) ?_
          rintro u ⟨hu, hud⟩
          apply oas; rfl; rfl
          apply OL.nil
          with_reducible apply At.in_normal
          with_reducible apply At.in_normal
          with_reducible apply At.next
          apply W.reg
          apply obn; rfl; rfl; rfl; apply Bin.add_in; omega
          apply omv; rfl; rfl
          apply OL.nil
          exact At.again (j + 1, some u) ⟨by simp only; omega, by simp only; rw [htk]; exact hz.next hpp hu hud⟩ (by simp only; omega) (by exact Sub.au) (fun w' hw' => hw')
      · obtain rfl : j = r.m := by omega
        rw [hrm, List.take_length, ← hPe] at hz
        have hcI : (ints (tabI G.length fun k => ovI (o k)))[0 + (k : Int).toNat * 1]? = some (.int .i64 (ovI (o k))) := by
          rw [show 0 + (k : Int).toNat * 1 = k by omega]
          exact ints_get (tabI_get hkl)
        refine W.cls (C' := Cls [rws B2 3 1 (fun j => L[j]?), blk bO 35 (L.map slC), row B1 Oo (some ao) (ordL G).length co 3 1 (ints (ordL G)), blk bR 135 [.slice none 0 0, .slice none 0 0], blk bI 3 (ints (tabI G.length fun k => ovI (o k))), blk bP 3 (ints (tabI G.length (plc0 G))), blk bG 135 [.slice (some ⟨bI, 0, none⟩) G.length G.length, .slice (some ⟨bP, 0, none⟩) G.length G.length]] [w]) (fun w' hw' => hc0.ext (hw'.toExt (.head _) (fun k hk => NotOwned.nil))) ?_
        clear hcO hcG0 hcG1 hcG
        have hpl : plN G k = i + 1 := hpk
        have hRIk : RI G (plN G) o0 o (plN G k) := by rw [hpl]; exact hRI
        obtain ⟨c, rfl, hnx⟩ := hz.done (by
          obtain ⟨q', h1, h2, h3, h4⟩ := hRIk.pre hord hkr hk0
          exact ⟨q', h1, h2, h4⟩)
        simp only [ovI_some, ovI_none]
        refine W.xt ?_
        with_reducible apply At.next
        apply W.sr
        apply omv; rfl; rfl
        apply ofa; rfl; rfl; rfl
        apply oop; rfl; apply Pev.load_blk; rfl; exact yes; apply List.Mem.tail; apply List.Mem.tail; apply List.Mem.tail; apply List.Mem.tail; exact .tail _ (.tail _ (.head _)); rfl; rfl
        apply omv; rfl; rfl
        apply oop; rfl; apply Pev.idxB; rfl; exact yes; rfl; exact yes; rfl; intro hcond; omega; rfl
        apply oop; rfl; apply Pev.load_blk; rfl; exact yes; apply List.Mem.tail; apply List.Mem.tail; exact .tail _ (.tail _ (.head _)); rfl; assumption
        apply obn; rfl; rfl; rfl; apply Bin.neq
        apply OL.nx
        have hRIn := hRIk.step hord hkr hk0 hnx
        rw [hpl] at hRIn
        refine W.cond rfl (fun h3 => ?_) (fun h3 => ?_)
        · have hne : o k ≠ some c := fun e => by rw [e] at h3; simp [ovI_some] at h3
          have hmu := hRIk.mu hord hcase hkr hk0 hnx hne
          have hSI : (ints (tabI G.length fun k => ovI (o k))).set (0 + (k : Int).toNat * 1) (.int .i64 (c : Int)) = ints (tabI G.length fun j => ovI (updO o k c j)) := by
            rw [show 0 + (k : Int).toNat * 1 = k by omega, ints_set, tabI_set]
            exact congrArg ints (tabI_congr fun j _ => by
              unfold updO
              by_cases e : j = k
              · rw [if_pos e, if_pos e]; rfl
              · rw [if_neg e, if_neg e])
          apply W.reg
          apply ofa; rfl; rfl; rfl
          apply oop; rfl; apply Pev.load_blk; rfl; exact yes; apply List.Mem.tail; apply List.Mem.tail; apply List.Mem.tail; apply List.Mem.tail; exact .tail _ (.tail _ (.head _)); rfl; rfl
          apply omv; rfl; rfl
          apply omv; rfl; rfl
          apply oop; rfl; apply Pev.idxB; rfl; exact yes; rfl; exact yes; rfl; intro hcond; omega; rfl
          (apply OL.storeI); rfl; rfl; rfl; rfl; rfl; (exact Swap.au); (rw [ints_length, tabI_length]; omega)
          rw [hSI]
          apply oas; rfl; rfl
          apply OL.nil
          with_reducible apply At.in_normal
          with_reducible apply At.next
          apply W.reg
          apply obn; rfl; rfl; rfl; apply Bin.add_in; omega
          apply omv; rfl; rfl
          apply OL.nil
          refine At.again (i + 1, updO o k c, true) ⟨by simp only; omega, hRIn, .inr ⟨rfl, ?_⟩⟩ (by simp only; omega) (by exact Sub.au) (fun w' hw' => hw')
          simp only
          rcases hag with ⟨_, rfl, _⟩ | ⟨_, h5⟩
          · exact hmu
          · omega
        · have he : o k = some c := by
            cases hok : o k with
            | none => rw [hok] at h3; simp [ovI_none] at h3
            | some c' =>
              by_cases e : c = c'
              · rw [e]
              · have e2 : ¬ (c : Int) = c' := by omega
                rw [hok, ovI_some] at h3
                simp [e2] at h3
          have hupd : updO o k c = o := by
            funext j
            unfold updO
            split
            · next e => rw [e, he]
            · rfl
          rw [hupd] at hRIn
          apply W.skip
          with_reducible apply At.in_normal
          with_reducible apply At.next
          apply W.reg
          apply obn; rfl; rfl; rfl; apply Bin.add_in; omega
          apply omv; rfl; rfl
          apply OL.nil
          refine At.again (i + 1, o, ag) ⟨by simp only; omega, hRIn, ?_⟩ (by simp only; omega) (by exact Sub.au) (fun w' hw' => hw')
          simp only
          rcases hag with ⟨h5, rfl, h6⟩ | ⟨h5, h6⟩
          · refine .inl ⟨h5, rfl, fun k' hk' hk0' hkl' => ?_⟩
            by_cases e : plN G k' = i + 1
            · obtain rfl := hord.inj k' k hk' hkr (by rw [hpl]; exact e)
              exact ⟨c, he, hnx⟩
            · exact h6 k' hk' hk0' (by omega)
          · exact .inr ⟨h5, h6⟩
    · have hall : ∀ k, Rc G (-1) k → plN G k < i + 1 := fun k hk => by
        have := (List.getElem?_eq_some_iff.1 (ordL_at hGE hG0 hk)).1
        omega
      have hend := hRI.end_ hord hall
      refine W.xt ?_
      with_reducible apply At.in_normal
      rcases hag with ⟨rfl, rfl, h6⟩ | ⟨rfl, h6⟩
      · exact At.again (o, false) ⟨hRI.w, .inr hend, fun _ => ⟨hend, fun k hk hk0 => h6 k hk hk0 (hall k hk)⟩⟩ (by simp) (by exact Sub.au) (fun w' hw' => hw')
      · exact At.again (o, true) ⟨hRI.w, .inr hend, fun h => by cases h⟩ (by simp only; omega) (by exact Sub.au) (fun w' hw' => hw')
end Go.Proofs.Ytehelljmaiophaa.ss
