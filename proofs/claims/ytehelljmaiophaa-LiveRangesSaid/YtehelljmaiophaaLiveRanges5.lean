/- Texts of the proof of LiveRanges, part 5: rules of a calculus for walking, plain laws, and walks of the functions that the law reaches. No condition. -/
import Derived.Test.YtehelljmaiophaaProg
import Derived.Shelf.SlGeneric
import Derived.Shelf.Spec.SlicesGrow
import Derived.Sort.Grow
import Derived.Shelf.Lays
import Derived.Shelf.Sort.Plain
import Derived.Shelf.Slices.In.SortNone
import Derived.Shelf.Slices.Reverse
import Derived.Laws.StructEq
import Derived.SizedLaws
import Derived.Test.YtehelljmaiophaaLiveRanges4
/- The walks of slices.IndexFunc and ContainsFunc at blocks and instructions, of live's defined and of the reference's Defines. Conditions: none. -/
namespace Go.Ss
open Go.Eng Go.RowKit
set_option linter.unusedVariables false
set_option linter.unusedSimpArgs false
def idxG {α : Type} (f : α → Bool) : List α → Nat → Int
  | [], _ => -1
  | p :: r, i => if f p = true then (i : Int) else idxG f r (i + 1)
theorem idxG_drop {α : Type} {f : α → Bool} {l : List α} {i k : Nat} {p : α} (h : l[i]? = some p) : idxG f (l.drop i) k = if f p = true then (k : Int) else idxG f (l.drop (i + 1)) (k + 1) := by
  obtain ⟨h1, rfl⟩ := List.getElem?_eq_some_iff.1 h
  rw [List.drop_eq_getElem_cons h1, idxG]
theorem idxG_any {α : Type} (f : α → Bool) : ∀ (ps : List α) (i : Nat), decide (0 ≤ idxG f ps i) = ps.any f
  | [], i => rfl
  | p :: r, i => by
    rw [idxG, List.any_cons]
    split
    · rename_i h
      rw [h, Bool.true_or]
      simp
    · rename_i h
      rw [idxG_any f r (i + 1), Bool.eq_false_iff.2 h, Bool.false_or]
end Go.Ss
namespace Go.Proofs.Ytehelljmaiophaa.ss
set_option maxRecDepth 100000
open Go.Eng Go.RowKit Go.Ss
set_option linter.unusedVariables false
set_option linter.unusedSimpArgs false
theorem KIndexFunc_calls (q : Option Addr) (cap : Nat) (l : List (Bk × BkY)) (f : FuncId) (first caps : List Value) (pr : Bk × BkY → Bool) (w : World) (hlen : l.length ≤ 9223372036854775807) (h : Arr bkR w (low w) l q)
    (hf : callable Try.prog f = true) (hp : ∀ p ∈ l, ∀ w', Ext w w' → Calls Try.prog f (first ++ [Value.agg (bkR.cells p.1 p.2).toArray] ++ caps).toArray w' fun e w'' => e = .returned (.bool (pr p)) ∧ Ext w' w'') :
    Calls Try.prog 115 [.slice q l.length cap, .func (.func f) first.toArray caps.toArray].toArray w fun e w' => e = .returned (.int .i64 (idxG pr l 0)) ∧ Ext w w' := by
  refine enter Try.func115 rfl Try.ntmps115 rfl (Cls.start w) ?_
  (simp only [argEnv, Nat.zero_add, Nat.reduceAdd])
  apply W.sr
  apply oas; rfl; rfl
  apply OL.nx
  apply W.seq
  apply W.sr
  apply omv; rfl; rfl
  apply oop; rfl; apply Pev.len_slice; rfl; exact yes; rfl
  apply omv; rfl; rfl
  apply OL.nx
  apply W.block
  refine W.loop (G := Nat) (fun i => i ≤ l.length ∧ idxG pr (l.drop i) i = idxG pr l 0) (fun i => l.length - i)
    (fun i => [(8, true, .int .i64 (i : Int)), (7, true, .int .i64 (l.length : Int)), (0, true, .slice q l.length cap), (1, true, .func (.func f) first.toArray caps.toArray)])
    (fun i => Cls [] [w]) 0 ⟨by omega, rfl⟩ (by exact Sub.au) (fun w' hw' => hw') ?_
  rintro i ⟨hi, hrest⟩
  apply W.sr
  apply obn; rfl; rfl; rfl; apply Bin.lss
  apply OL.nx
  apply W.seq
  (refine W.cnd (fun hlt => ?_) (fun hlt => ?_)) <;> (try (exfalso; first | omega | exact hlt trivial | contradiction))
  · obtain ⟨a, p, rfl, hab, hu, hcell, hok⟩ := h.get (show i < l.length by omega)
    have hab : a.block < w.heap.size := hab
    have hcell : CellsAt w (a.add (i * 7)) [.slice p.2.p.1 p.1.params.length p.2.p.2, .slice p.2.i.1 p.1.ins.length p.2.i.2, .int .i64 p.1.term.kind, .int .i64 p.1.term.arg, .int .i64 p.1.term.n, .slice p.2.t.c.1 p.1.term.cases.length p.2.t.c.2, .slice p.2.t.t.1 p.1.term.to_.length p.2.t.t.2] := hcell
    have hpu := fun w3 => hp p (List.mem_of_getElem? hu) w3
    have hpu : ∀ w3, Ext w w3 → Calls Try.prog f (first ++ [Value.agg ([.slice p.2.p.1 p.1.params.length p.2.p.2, .slice p.2.i.1 p.1.ins.length p.2.i.2, .int .i64 p.1.term.kind, .int .i64 p.1.term.arg, .int .i64 p.1.term.n, .slice p.2.t.c.1 p.1.term.cases.length p.2.t.c.2, .slice p.2.t.t.1 p.1.term.to_.length p.2.t.t.2] : List Value).toArray] ++ caps).toArray w3 fun e w'' => e = .returned (.bool (pr p)) ∧ Ext w3 w'' := hpu
    rw [idxG_drop hu] at hrest
    apply W.sk
    apply W.sb
    apply W.sr
    apply omv; rfl; rfl
    apply oas; rfl; rfl
    apply OL.nsr
    apply omv; rfl; rfl
    apply omv; rfl; rfl
    apply omv; rfl; rfl
    apply oop; rfl; apply Pev.idx; rfl; exact yes; rfl; exact yes; rfl; rfl; intro hcond; omega
    apply oop; rfl; apply Pev.load_keptA; rfl; exact yes; exact .head _; rfl; intro hcond; assumption; rfl; intro hcond; (rw [add_block]; assumption); intro hcond; exact NotOwned.au
    (((first | (with_reducible apply OL.op) | (with_reducible apply QL.op)); (exact Guard.au); rfl; rfl); (apply Pev.callv (first := first) (cap := caps)); rfl; ((first | exact fun _ => rfl | exact fun h => h | (intro h; simp_all; done))); (exact hf); (exact Args.au); (exact (fun _ w2 hw2 => (hpu w2 (hw2.toExt (by exact mau) (fun k hk => by exact NotOwned.au))).mono (fun e w3 h => ⟨h.1, hw2.ext h.2⟩))))
    apply OL.nx
    refine W.cond rfl (fun heq => ?_) (fun heq => ?_)
    · rw [if_pos heq] at hrest
      apply W.sr
      apply omv; rfl; rfl
      apply oas; rfl; rfl
      apply OL.nx
      refine W.rt ?_
      ((with_reducible apply At.fin1); rfl; rfl; intro w' hw')
      exact ⟨by rw [hrest], by (exact hw'.fr)⟩
    · rw [if_neg (by simpa using heq)] at hrest
      apply W.skip
      with_reducible apply At.in_normal
      with_reducible apply At.next
      apply W.reg
      apply obn; rfl; rfl; rfl; apply Bin.add_in; omega
      apply omv; rfl; rfl
      apply OL.nil
      exact At.again (i + 1) ⟨by omega, hrest⟩ (by omega) (by exact Sub.au) (fun w' hw' => hw'.thin (by exact Thin.au))
  · rw [List.drop_eq_nil_of_le (by omega), idxG] at hrest
    refine W.xt ?_
    with_reducible apply At.next
    apply W.sr
    apply oas; rfl; rfl
    apply OL.nx
    apply W.ret
    ((with_reducible apply At.fin1); rfl; rfl; intro w' hw')
    exact ⟨by rw [← hrest], by (exact hw'.fr)⟩
theorem KContainsFunc_calls (q : Option Addr) (cap : Nat) (l : List (Bk × BkY)) (f : FuncId) (first caps : List Value) (pr : Bk × BkY → Bool) (w : World) (hlen : l.length ≤ 9223372036854775807) (h : Arr bkR w (low w) l q)
    (hf : callable Try.prog f = true) (hp : ∀ p ∈ l, ∀ w', Ext w w' → Calls Try.prog f (first ++ [Value.agg (bkR.cells p.1 p.2).toArray] ++ caps).toArray w' fun e w'' => e = .returned (.bool (pr p)) ∧ Ext w' w'') :
    Calls Try.prog 73 [.slice q l.length cap, .func (.func f) first.toArray caps.toArray].toArray w fun e w' => e = .returned (.bool (l.any pr)) ∧ Ext w w' := by
  refine enter Try.func73 rfl Try.ntmps73 rfl (Cls.start w) ?_
  (simp only [argEnv, Nat.zero_add, Nat.reduceAdd])
  apply W.sr
  apply oas; rfl; rfl
  apply OL.nsr
  apply omv; rfl; rfl
  apply omv; rfl; rfl
  (((first | (with_reducible apply OL.op) | (with_reducible apply QL.op)); (exact Guard.au); rfl; rfl); (exact Pev.call rfl (by exact Args.au) (fun _ w2 hw2 => (KIndexFunc_calls q cap l f first caps pr w2 hlen (h.at hw2 (by exact mau) (fun k hk => NotOwned.nil)) hf (fun s hs w3 h3 => hp s hs w3 ((hw2.toExt (s := w) (by exact mau) (fun k hk => by exact NotOwned.au)).trans h3))).mono (fun e w3 h => ⟨h.1, hw2.ext h.2⟩))))
  apply obn; rfl; rfl; rfl; apply Bin.geq
  apply oas; rfl; rfl
  apply OL.nx
  apply W.ret
  ((with_reducible apply At.fin1); rfl; rfl; intro w' hw')
  exact ⟨by rw [← idxG_any pr l 0], by (exact hw'.fr)⟩
theorem NIndexFunc_calls (q : Option Addr) (cap : Nat) (l : List (In × Sc)) (f : FuncId) (first caps : List Value) (pr : In × Sc → Bool) (w : World) (hlen : l.length ≤ 9223372036854775807) (h : Arr inR w (low w) l q)
    (hf : callable Try.prog f = true) (hp : ∀ p ∈ l, ∀ w', Ext w w' → Calls Try.prog f (first ++ [Value.agg (inR.cells p.1 p.2).toArray] ++ caps).toArray w' fun e w'' => e = .returned (.bool (pr p)) ∧ Ext w' w'') :
    Calls Try.prog 117 [.slice q l.length cap, .func (.func f) first.toArray caps.toArray].toArray w fun e w' => e = .returned (.int .i64 (idxG pr l 0)) ∧ Ext w w' := by
  refine enter Try.func117 rfl Try.ntmps117 rfl (Cls.start w) ?_
  (simp only [argEnv, Nat.zero_add, Nat.reduceAdd])
  apply W.sr
  apply oas; rfl; rfl
  apply OL.nx
  apply W.seq
  apply W.sr
  apply omv; rfl; rfl
  apply oop; rfl; apply Pev.len_slice; rfl; exact yes; rfl
  apply omv; rfl; rfl
  apply OL.nx
  apply W.block
  refine W.loop (G := Nat) (fun i => i ≤ l.length ∧ idxG pr (l.drop i) i = idxG pr l 0) (fun i => l.length - i)
    (fun i => [(8, true, .int .i64 (i : Int)), (7, true, .int .i64 (l.length : Int)), (0, true, .slice q l.length cap), (1, true, .func (.func f) first.toArray caps.toArray)])
    (fun i => Cls [] [w]) 0 ⟨by omega, rfl⟩ (by exact Sub.au) (fun w' hw' => hw') ?_
  rintro i ⟨hi, hrest⟩
  apply W.sr
  apply obn; rfl; rfl; rfl; apply Bin.lss
  apply OL.nx
  apply W.seq
  (refine W.cnd (fun hlt => ?_) (fun hlt => ?_)) <;> (try (exfalso; first | omega | exact hlt trivial | contradiction))
  · obtain ⟨a, p, rfl, hab, hu, hcell, hok⟩ := h.get (show i < l.length by omega)
    have hab : a.block < w.heap.size := hab
    have hcell : CellsAt w (a.add (i * 4)) [.int .i64 p.1.to_, .int .i64 p.1.op, .int .i64 p.1.n, .slice p.2.1 p.1.args.length p.2.2] := hcell
    have hpu := fun w3 => hp p (List.mem_of_getElem? hu) w3
    have hpu : ∀ w3, Ext w w3 → Calls Try.prog f (first ++ [Value.agg ([.int .i64 p.1.to_, .int .i64 p.1.op, .int .i64 p.1.n, .slice p.2.1 p.1.args.length p.2.2] : List Value).toArray] ++ caps).toArray w3 fun e w'' => e = .returned (.bool (pr p)) ∧ Ext w3 w'' := hpu
    rw [idxG_drop hu] at hrest
    apply W.sk
    apply W.sb
    apply W.sr
    apply omv; rfl; rfl
    apply oas; rfl; rfl
    apply OL.nsr
    apply omv; rfl; rfl
    apply omv; rfl; rfl
    apply omv; rfl; rfl
    apply oop; rfl; apply Pev.idx; rfl; exact yes; rfl; exact yes; rfl; rfl; intro hcond; omega
    apply oop; rfl; apply Pev.load_keptA; rfl; exact yes; exact .head _; rfl; intro hcond; assumption; rfl; intro hcond; (rw [add_block]; assumption); intro hcond; exact NotOwned.au
    (((first | (with_reducible apply OL.op) | (with_reducible apply QL.op)); (exact Guard.au); rfl; rfl); (apply Pev.callv (first := first) (cap := caps)); rfl; ((first | exact fun _ => rfl | exact fun h => h | (intro h; simp_all; done))); (exact hf); (exact Args.au); (exact (fun _ w2 hw2 => (hpu w2 (hw2.toExt (by exact mau) (fun k hk => by exact NotOwned.au))).mono (fun e w3 h => ⟨h.1, hw2.ext h.2⟩))))
    apply OL.nx
    refine W.cond rfl (fun heq => ?_) (fun heq => ?_)
    · rw [if_pos heq] at hrest
      apply W.sr
      apply omv; rfl; rfl
      apply oas; rfl; rfl
      apply OL.nx
      refine W.rt ?_
      ((with_reducible apply At.fin1); rfl; rfl; intro w' hw')
      exact ⟨by rw [hrest], by (exact hw'.fr)⟩
    · rw [if_neg (by simpa using heq)] at hrest
      apply W.skip
      with_reducible apply At.in_normal
      with_reducible apply At.next
      apply W.reg
      apply obn; rfl; rfl; rfl; apply Bin.add_in; omega
      apply omv; rfl; rfl
      apply OL.nil
      exact At.again (i + 1) ⟨by omega, hrest⟩ (by omega) (by exact Sub.au) (fun w' hw' => hw'.thin (by exact Thin.au))
  · rw [List.drop_eq_nil_of_le (by omega), idxG] at hrest
    refine W.xt ?_
    with_reducible apply At.next
    apply W.sr
    apply oas; rfl; rfl
    apply OL.nx
    apply W.ret
    ((with_reducible apply At.fin1); rfl; rfl; intro w' hw')
    exact ⟨by rw [← hrest], by (exact hw'.fr)⟩
theorem NContainsFunc_calls (q : Option Addr) (cap : Nat) (l : List (In × Sc)) (f : FuncId) (first caps : List Value) (pr : In × Sc → Bool) (w : World) (hlen : l.length ≤ 9223372036854775807) (h : Arr inR w (low w) l q)
    (hf : callable Try.prog f = true) (hp : ∀ p ∈ l, ∀ w', Ext w w' → Calls Try.prog f (first ++ [Value.agg (inR.cells p.1 p.2).toArray] ++ caps).toArray w' fun e w'' => e = .returned (.bool (pr p)) ∧ Ext w' w'') :
    Calls Try.prog 77 [.slice q l.length cap, .func (.func f) first.toArray caps.toArray].toArray w fun e w' => e = .returned (.bool (l.any pr)) ∧ Ext w w' := by
  refine enter Try.func77 rfl Try.ntmps77 rfl (Cls.start w) ?_
  (simp only [argEnv, Nat.zero_add, Nat.reduceAdd])
  apply W.sr
  apply oas; rfl; rfl
  apply OL.nsr
  apply omv; rfl; rfl
  apply omv; rfl; rfl
  (((first | (with_reducible apply OL.op) | (with_reducible apply QL.op)); (exact Guard.au); rfl; rfl); (exact Pev.call rfl (by exact Args.au) (fun _ w2 hw2 => (NIndexFunc_calls q cap l f first caps pr w2 hlen (h.at hw2 (by exact mau) (fun k hk => NotOwned.nil)) hf (fun s hs w3 h3 => hp s hs w3 ((hw2.toExt (s := w) (by exact mau) (fun k hk => by exact NotOwned.au)).trans h3))).mono (fun e w3 h => ⟨h.1, hw2.ext h.2⟩))))
  apply obn; rfl; rfl; rfl; apply Bin.geq
  apply oas; rfl; rfl
  apply OL.nx
  apply W.ret
  ((with_reducible apply At.fin1); rfl; rfl; intro w' hw')
  exact ⟨by rw [← idxG_any pr l 0], by (exact hw'.fr)⟩
theorem def11_calls (p : In × Sc) (b : Nat) (v : Int) (w : World) (hc : w.cell? ⟨b, 0, none⟩ = some (.int .i64 v)) (hb : b < w.heap.size) :
    Calls Try.prog 107 [.agg [.int .i64 p.1.to_, .int .i64 p.1.op, .int .i64 p.1.n, .slice p.2.1 p.1.args.length p.2.2].toArray, .pointer (some ⟨b, 0, none⟩)].toArray w fun e w' => e = .returned (.bool (decide (p.1.to_ = v))) ∧ Ext w w' := by
  refine enter Try.func107 rfl Try.ntmps107 rfl (Cls.start w) ?_
  (simp only [argEnv, Nat.zero_add, Nat.reduceAdd])
  apply W.sr
  apply OL.box; rfl; rfl; exact CellsL.agg; (intro bk hbk; simp only [AllLe, and_true] at hbk)
  apply oas; rfl; rfl
  apply OL.nsr
  apply ofa; rfl; rfl; rfl
  apply old; rfl; rfl; exact .head _; rfl; rfl
  apply oop; rfl; apply Pev.load_kept; rfl; exact yes; exact .head _; rfl; intro hcond; assumption; intro hcond; assumption; intro hcond; exact NotOwned.au
  apply obn; rfl; rfl; rfl; apply Bin.eql
  apply oas; rfl; rfl
  apply OL.nx
  apply W.ret
  ((with_reducible apply At.fin1); rfl; rfl; intro w' hw')
  exact ⟨rfl, by (exact hw'.fr)⟩
theorem def1_calls (p : Bk × BkY) (b : Nat) (v : Int) (w : World) (hok : BkOk w (low w) p.1 p.2) (hc : w.cell? ⟨b, 0, none⟩ = some (.int .i64 v)) (hb : b < w.heap.size) :
    Calls Try.prog 106 [.agg ([.slice p.2.p.1 p.1.params.length p.2.p.2, .slice p.2.i.1 p.1.ins.length p.2.i.2, .int .i64 p.1.term.kind, .int .i64 p.1.term.arg, .int .i64 p.1.term.n, .slice p.2.t.c.1 p.1.term.cases.length p.2.t.c.2, .slice p.2.t.t.1 p.1.term.to_.length p.2.t.t.2] : List Value).toArray, .pointer (some ⟨b, 0, none⟩)].toArray w fun e w' => e = .returned (.bool (decide (v ∈ defsB p.1))) ∧ Ext w w' := by
  obtain ⟨pi, hpi, hiarr⟩ := hok.i
  have hpil : p.1.ins.length = pi.length := by rw [← hpi, List.length_map]
  have hpl := hok.pl
  have hil := hok.il
  refine enter Try.func106 rfl Try.ntmps106 rfl (Cls.start w) ?_
  (simp only [argEnv, Nat.zero_add, Nat.reduceAdd])
  apply W.sr
  apply OL.box; rfl; rfl; exact CellsL.agg; (intro bk hbk; simp only [AllLe, and_true] at hbk)
  apply oas; rfl; rfl
  apply OL.nsr
  apply ofa; rfl; rfl; rfl
  apply old; rfl; rfl; exact .head _; rfl; rfl
  apply oop; rfl; apply Pev.load_kept; rfl; exact yes; exact .head _; rfl; intro hcond; assumption; intro hcond; assumption; intro hcond; exact NotOwned.au
  (((first | (with_reducible apply OL.op) | (with_reducible apply QL.op)); (exact Guard.au); rfl; rfl); (exact Pev.call (v := .bool (decide (v ∈ p.1.params))) rfl (by exact Args.au) (fun _ w2 hw2 => (IContains_calls p.2.p.1 p.2.p.2 p.1.params v w2 (by omega) (hok.p.at hw2 (by exact mau) (fun k hk => by exact NotOwned.au))).mono (fun e w3 h => ⟨h.1, hw2.ext h.2⟩))))
  rw [hpil]
  apply omv; rfl; rfl
  apply ono; rfl; rfl; rfl; apply Pev.fld; rfl; exact yes; rfl
  apply ono; rfl; rfl; rfl; apply Pev.load_blk; rfl; exact fun h => h; exact .head _; rfl; rfl
  apply ono; rfl; rfl; rfl; apply Pev.makeFunc; exact Args.au; exact Args.au
  have hcf := fun w2 h => NContainsFunc_calls p.2.i.1 p.2.i.2 pi 107 [] [.pointer (some ⟨b, 0, none⟩)] (fun u => decide (u.1.to_ = v)) w2 (by omega) h rfl
  (((first | (with_reducible apply OL.op) | (with_reducible apply QL.op)); (exact Guard.au); rfl; rfl); (exact Pev.call (v := .bool (pi.any fun u => decide (u.1.to_ = v))) rfl (by exact Args.au) (fun _ w2 hw2 => (hcf w2 (hiarr.at hw2 (by exact mau) (fun k hk => by exact NotOwned.au)) (fun u hu w3 h3 => def11_calls u b v w3 (by
    have h4 := hw2.same (w := w) (by exact mau) (fun k hk => by exact NotOwned.au) b hb
    have h5 := h3.block b (hw2.up (w := w) (by exact mau) b hb) id
    rw [cell_heap (w := w) (h5.trans h4)]
    exact hc) (Nat.lt_of_lt_of_le (hw2.up (w := w) (by exact mau) b hb) h3.size))).mono (fun e w3 h => ⟨h.1, hw2.ext h.2⟩))))
  apply oop; rfl; apply Pev.pick_or; rfl; exact yes; rfl; exact fun h => h
  apply oas; rfl; rfl
  apply OL.nx
  apply W.ret
  ((with_reducible apply At.fin1); rfl; rfl; intro w' hw')
  refine ⟨?_, by (exact hw'.fr)⟩
  have e1 : (pi.any fun u => decide (u.1.to_ = v)) = decide (v ∈ p.1.ins.map In.to_) := by
    rw [Bool.eq_iff_iff, decide_eq_true_eq, List.any_eq_true, ← hpi]
    simp
  rw [e1]
  have e2 : decide (v ∈ defsB p.1) = (decide (v ∈ p.1.params) || decide (v ∈ p.1.ins.map In.to_)) := by
    unfold defsB
    rw [Bool.eq_iff_iff]
    simp
  rw [e2]
theorem defined_calls (es : List (Bk × BkY)) (q : Option Addr) (cap : Nat) (nm v : Int) (w : World) (he : Arr bkR w (low w) es q) (hlen : es.length ≤ 128) :
    Calls Try.prog 66 [.agg #[.int .i64 nm, .slice q es.length cap], .int .i64 v].toArray w fun e w' => e = .returned (.bool (decide (v ∈ defsF (es.map Prod.fst)))) ∧ Ext w w' := by
  refine enter Try.func66 rfl Try.ntmps66 rfl (Cls.start w) ?_
  (simp only [argEnv, Nat.zero_add, Nat.reduceAdd])
  apply W.sr
  apply OL.box; rfl; rfl; exact CellsL.agg; (intro bk hbk; simp only [AllLe, and_true] at hbk)
  apply OL.box; rfl; rfl; exact CellsL.one rfl; (intro bk hbk; simp only [AllLe, and_true] at hbk)
  apply oas; rfl; rfl
  apply OL.nsr
  apply ofa; rfl; rfl; rfl
  apply old; rfl; rfl; exact .tail _ (.head _); rfl; rfl
  apply oop; rfl; apply Pev.makeFunc; exact Args.au; exact Args.au
  rename_i bF hbF
  have hbF1 : w.heap.size ≤ bF := by first | exact hbF | exact hbF.1
  have hbk1 : w.heap.size ≤ bk := by first | exact hbk | exact hbk.1
  have hcf := fun w2 h => KContainsFunc_calls q cap es 106 [] [.pointer (some ⟨bk, 0, none⟩)] (fun p => decide (v ∈ defsB p.1)) w2 (by omega) h rfl
  (((first | (with_reducible apply OL.op) | (with_reducible apply QL.op)); (exact Guard.au); rfl; rfl); (exact Pev.call (v := .bool (es.any fun p => decide (v ∈ defsB p.1))) rfl (by exact Args.au) (fun _ w2 hw2 => (hcf w2 (he.at hw2 (by exact mau) (fun k hk => by exact NotOwned.au)) (fun p hp w3 h3 => def1_calls p bk v w3 (bkR.mono (fun k hk => Nat.lt_of_lt_of_le (hw2.up (w := w) (by exact mau) k hk) h3.size) (bkR.stab (fun k hk => (h3.block k (hw2.up (w := w) (by exact mau) k hk) id).trans (hw2.same (w := w) (by exact mau) (fun k hk => by exact NotOwned.au) k hk)) (he.el p hp))) (by
    have h4 := hw2.item (i := blk bk 3 [.int .i64 v]) (by exact mau)
    have h5 := h3.block bk (blk_lt h4) id
    rw [cell_heap (w := w2) h5, blk_cell h4]
    rfl) (Nat.lt_of_lt_of_le (blk_lt (hw2.item (i := blk bk 3 [.int .i64 v]) (by exact mau))) h3.size))).mono (fun e w3 h => ⟨h.1, hw2.ext h.2⟩))))
  apply oas; rfl; rfl
  apply OL.nx
  apply W.ret
  ((with_reducible apply At.fin1); rfl; rfl; intro w' hw')
  refine ⟨?_, by (exact hw'.fr)⟩
  have e1 : (es.any fun p => decide (v ∈ defsB p.1)) = decide (v ∈ defsF (es.map Prod.fst)) := by
    unfold defsF
    rw [Bool.eq_iff_iff, decide_eq_true_eq, List.any_eq_true, List.mem_flatMap]
    constructor
    · rintro ⟨p, h1, h2⟩; exact ⟨p.1, List.mem_map_of_mem h1, of_decide_eq_true h2⟩
    · rintro ⟨b, h1, h2⟩
      obtain ⟨p, h3, rfl⟩ := List.mem_map.1 h1
      exact ⟨p, h3, decide_eq_true h2⟩
  rw [e1]
theorem Defines_calls (es : List (Bk × BkY)) (q : Option Addr) (cap : Nat) (nm v : Int) (w : World) (he : Arr bkR w (low w) es q) (hlen : es.length ≤ 140737488355328) :
    Calls Try.prog 21 [.agg #[.int .i64 nm, .slice q es.length cap], .int .i64 v].toArray w fun e w' => e = .returned (.bool (decide (v ∈ defsF (es.map Prod.fst)))) ∧ Ext w w' := by
  obtain ⟨bs, hbs⟩ : ∃ bs, es.map Prod.fst = bs := ⟨_, rfl⟩
  have hbl : bs.length = es.length := by rw [← hbs, List.length_map]
  rw [hbs]
  refine enter Try.func21 rfl Try.ntmps21 rfl (Cls.start w) ?_
  (simp only [argEnv, Nat.zero_add, Nat.reduceAdd])
  apply W.sr
  apply OL.box; rfl; rfl; exact CellsL.agg; (intro bk hbk; simp only [AllLe, and_true] at hbk)
  apply oas; rfl; rfl
  apply OL.nx
  apply W.seq
  apply W.sr
  apply ofa; rfl; rfl; rfl
  apply old; rfl; rfl; exact .head _; rfl; rfl
  apply oop; rfl; apply Pev.len_slice; rfl; exact yes; rfl
  apply omv; rfl; rfl
  apply OL.nx
  apply W.block
  have hbF : w.heap.size ≤ bk := by first | exact hbk | exact hbk.1
  refine W.loop (G := Nat) (fun k => k ≤ es.length ∧ ¬ v ∈ defsF (bs.take k)) (fun k => es.length - k)
    (fun k => [(1, true, .int .i64 v), (10, true, .slice q es.length cap), (11, true, .int .i64 (es.length : Int)), (12, true, .int .i64 (k : Int))])
    (fun _ => Cls [] [w]) 0 ⟨by omega, by simp [defsF]⟩ (by exact Sub.au) (fun w' hw' => hw'.thin (.any (fun k hk => by rw [show k = bk from hk]; exact ⟨hbF, trivial⟩) Thin.nil)) ?_
  rintro k ⟨hk, hnk⟩
  apply W.sr
  apply obn; rfl; rfl; rfl; apply Bin.lss
  apply OL.nx
  apply W.seq
  (refine W.cnd (fun hlt => ?_) (fun hlt => ?_)) <;> (try (exfalso; first | omega | exact hlt trivial | contradiction))
  · have hkl : k < es.length := by omega
    obtain ⟨a, p, hqa, hab, hp, hcell, hok⟩ := he.get hkl
    have hab : a.block < w.heap.size := hab
    have hcell : CellsAt w (a.add (k * 7)) [.slice p.2.p.1 p.1.params.length p.2.p.2, .slice p.2.i.1 p.1.ins.length p.2.i.2, .int .i64 p.1.term.kind, .int .i64 p.1.term.arg, .int .i64 p.1.term.n, .slice p.2.t.c.1 p.1.term.cases.length p.2.t.c.2, .slice p.2.t.t.1 p.1.term.to_.length p.2.t.t.2] := hcell
    have hbsk : bs[k]? = some p.1 := by rw [← hbs, List.getElem?_map, hp]; rfl
    have hin : ∀ {u : Int}, u ∈ defsB p.1 → u ∈ defsF bs := fun {u} hu => List.mem_flatMap.2 ⟨p.1, List.mem_of_getElem? hbsk, hu⟩
    have hnx : defsF (bs.take (k + 1)) = defsF (bs.take k) ++ defsB p.1 := by
      unfold defsF
      rw [List.take_add_one, hbsk, Option.toList_some, List.flatMap_append]
      simp
    have hpl := hok.pl
    have hil := hok.il
    obtain ⟨pi, hpi, hiarr⟩ := hok.i
    have hpil : p.1.ins.length = pi.length := by rw [← hpi, List.length_map]
    rw [hqa]
    apply W.sk
    apply W.sb
    apply W.sr
    apply oop; rfl; apply Pev.idx; rfl; exact yes; rfl; exact yes; rfl; rfl; intro hcond; omega
    apply oop; rfl; apply Pev.load_keptA; rfl; exact yes; exact .head _; rfl; intro hcond; assumption; rfl; intro hcond; (rw [add_block]; assumption); intro hcond; exact NotOwned.au
    apply OL.alloc; rfl; rfl; exact CellsL.agg; (intro bk hbk; simp only [AllLe, and_true] at hbk)
    apply OL.storeB; rfl; rfl; exact CellsL.agg; rfl; rfl; rfl; exact Swap.au; exact Put.au
    apply OL.nx
    apply W.seq
    apply W.sr
    apply ofa; rfl; rfl; rfl
    apply old; rfl; rfl; exact .head _; rfl; rfl
    apply omv; rfl; rfl
    have hb6 : w.heap.size ≤ bk := by first | exact hbk | exact hbk.1
    (((first | (with_reducible apply OL.op) | (with_reducible apply QL.op)); (exact Guard.au); rfl; rfl); (exact Pev.call (v := .bool (decide (v ∈ p.1.params))) rfl (by exact Args.au) (fun _ w2 hw2 => (HasInt_calls p.2.p.1 p.2.p.2 p.1.params v w2 (by omega) (hok.p.at hw2 (by exact mau) (fun k hk => by exact NotOwned.au))).mono (fun e w3 h => ⟨h.1, hw2.ext h.2⟩))))
    apply OL.nx
    refine W.cond rfl (fun h2 => ?_) (fun h2 => ?_)
    · apply W.sr
      apply oas; rfl; rfl
      apply OL.nx
      refine W.rt ?_
      ((with_reducible apply At.fin1); rfl; rfl; intro w' hw')
      exact ⟨by rw [decide_eq_true (hin (List.mem_append_left _ (of_decide_eq_true h2)))], (hw'.thin (.any (fun k hk => by rw [show k = bk from hk]; exact ⟨hb6, trivial⟩) Thin.nil)).fr (by exact mau) (fun k hk => NotOwned.nil)⟩
    have hnp : ¬ v ∈ p.1.params := of_decide_eq_false h2
    rw [hpil]
    apply W.sk
    apply W.sr
    apply ofa; rfl; rfl; rfl
    apply old; rfl; rfl; exact .head _; rfl; rfl
    apply oop; rfl; apply Pev.len_slice; rfl; exact yes; rfl
    apply omv; rfl; rfl
    apply OL.nx
    apply W.block
    refine W.loop (G := Nat) (fun j => j ≤ pi.length ∧ ¬ v ∈ (p.1.ins.map In.to_).take j) (fun j => pi.length - j)
      (fun j => [(1, true, .int .i64 v), (10, true, .slice (some a) es.length cap), (11, true, .int .i64 (es.length : Int)), (12, true, .int .i64 (k : Int)), (21, true, .slice p.2.i.1 pi.length p.2.i.2), (22, true, .int .i64 (pi.length : Int)), (23, true, .int .i64 (j : Int))])
      (fun _ => Cls [] [w]) 0 ⟨by omega, by simp⟩ (by exact Sub.au) (fun w' hw' => hw'.thin (.any (fun k hk => by rw [show k = bk from hk]; exact ⟨hb6, trivial⟩) Thin.nil)) ?_
    rintro j ⟨hj, hnj⟩
    apply W.sr
    apply obn; rfl; rfl; rfl; apply Bin.lss
    apply OL.nx
    apply W.seq
    (refine W.cnd (fun hlt2 => ?_) (fun hlt2 => ?_)) <;> (try (exfalso; first | omega | exact hlt2 trivial | contradiction))
    · obtain ⟨ai, u, hqi, haib, hu, hcu, hoku⟩ := hiarr.get (show j < pi.length by omega)
      have haib : ai.block < w.heap.size := haib
      have hcu : CellsAt w (ai.add (j * 4)) [.int .i64 u.1.to_, .int .i64 u.1.op, .int .i64 u.1.n, .slice u.2.1 u.1.args.length u.2.2] := hcu
      have hui : (p.1.ins.map In.to_)[j]? = some u.1.to_ := by rw [← hpi]; simp [hu]
      rw [hqi]
      apply W.sk
      apply W.sb
      apply W.sr
      apply oop; rfl; apply Pev.idx; rfl; exact yes; rfl; exact yes; rfl; rfl; intro hcond; omega
      apply oop; rfl; apply Pev.load_keptA; rfl; exact yes; exact .head _; rfl; intro hcond; assumption; rfl; intro hcond; (rw [add_block]; assumption); intro hcond; exact NotOwned.au
      apply OL.alloc; rfl; rfl; exact CellsL.agg; (intro bk hbk; simp only [AllLe, and_true] at hbk)
      apply OL.storeB; rfl; rfl; exact CellsL.agg; rfl; rfl; rfl; exact Swap.au; exact Put.au
      apply OL.nsr
      apply ofa; rfl; rfl; rfl
      apply old; rfl; rfl; exact .head _; rfl; rfl
      apply omv; rfl; rfl
      apply obn; rfl; rfl; rfl; apply Bin.eql
      apply OL.nx
      have hb8 : w.heap.size ≤ bk := by first | exact hbk | exact hbk.1
      refine W.cond rfl (fun h3 => ?_) (fun h3 => ?_)
      · apply W.sr
        apply oas; rfl; rfl
        apply OL.nx
        refine W.rt ?_
        ((with_reducible apply At.fin1); rfl; rfl; intro w' hw')
        have h4 : u.1.to_ = v := of_decide_eq_true h3
        exact ⟨by rw [decide_eq_true (hin (List.mem_append_right _ (by rw [← h4]; exact List.mem_of_getElem? hui)))], (hw'.thin (.any (fun k hk => by rw [show k = bk from hk]; exact ⟨hb8, trivial⟩) Thin.nil)).fr (by exact mau) (fun k hk => NotOwned.nil)⟩
      · have h4 : u.1.to_ ≠ v := of_decide_eq_false h3
        apply W.skip
        with_reducible apply At.in_normal
        with_reducible apply At.next
        apply W.reg
        apply obn; rfl; rfl; rfl; apply Bin.add_in; omega
        apply omv; rfl; rfl
        apply OL.nil
        refine At.again (j + 1) ⟨by omega, fun hm => ?_⟩ (by omega) (by exact Sub.au) (fun w' hw' => hw'.thin (.any (fun k hk => by rw [show k = bk from hk]; exact ⟨hb8, trivial⟩) Thin.nil))
        rw [List.take_add_one, hui, Option.toList_some] at hm
        rcases List.mem_append.1 hm with hm | hm
        · exact hnj hm
        · exact h4 (List.mem_singleton.1 hm).symm
    obtain rfl : j = pi.length := by omega
    refine W.xt ?_
    with_reducible apply At.in_normal
    with_reducible apply At.next
    apply W.reg
    apply obn; rfl; rfl; rfl; apply Bin.add_in; omega
    apply omv; rfl; rfl
    apply OL.nil
    refine At.again (k + 1) ⟨by omega, fun hm => ?_⟩ (by omega) (by exact Sub.au) (fun w' hw' => hw')
    rw [hnx] at hm
    rcases List.mem_append.1 hm with hm | hm
    · exact hnk hm
    · rcases List.mem_append.1 hm with hm | hm
      · exact hnp hm
      · rw [show (p.1.ins.map In.to_).take pi.length = p.1.ins.map In.to_ by rw [List.take_of_length_le]; simp [hpil]] at hnj
        exact hnj hm
  obtain rfl : k = es.length := by omega
  rw [← hbl, List.take_length] at hnk
  rw [decide_eq_false hnk]
  refine W.xt ?_
  with_reducible apply At.next
  apply W.sr
  apply oas; rfl; rfl
  apply OL.nx
  apply W.ret
  ((with_reducible apply At.fin1); rfl; rfl; intro w' hw')
  exact ⟨rfl, by (exact hw'.fr)⟩
end Go.Proofs.Ytehelljmaiophaa.ss

/- The walks of live's Interfere and Pressure. Conditions: none. -/
namespace Go.Ss
open Go.Eng Go.RowKit
set_option linter.unusedVariables false
set_option linter.unusedSimpArgs false
/-- two values are live at one place -/
def Both (bs : List Bk) (v u : Int) : Prop := ∃ (k : Nat) (b : Bk) (n : Nat), bs[k]? = some b ∧ n ≤ b.ins.length ∧ LiveS bs v k n ∧ LiveS bs u k n
open Classical in
noncomputable def bothB (bs : List Bk) (v u : Int) : Bool := decide (Both bs v u)
theorem bothB_iff {bs : List Bk} {v u : Int} : bothB bs v u = true ↔ Both bs v u := by unfold bothB; exact @decide_eq_true_iff _ (Classical.propDecidable _)
theorem bothB_eq {bs : List Bk} {v u : Int} {x : Bool} (h : x = true ↔ Both bs v u) : x = bothB bs v u := by
  have := h.trans bothB_iff.symm
  cases x <;> cases hb : bothB bs v u <;> simp_all
/-- the greatest number of values that are live at one place -/
def Most (bs : List Bk) (m : Nat) (x : Nat) : Prop := (∀ (k : Nat) (b : Bk) (n : Nat), bs[k]? = some b → n ≤ b.ins.length → (liveL bs m k n).length ≤ x) ∧ (x = 0 ∨ ∃ (k : Nat) (b : Bk) (n : Nat), bs[k]? = some b ∧ n ≤ b.ins.length ∧ x = (liveL bs m k n).length)
theorem Most.uniq {bs : List Bk} {m x y : Nat} (h : Most bs m x) (h' : Most bs m y) : x = y := by
  have key : ∀ {x y}, Most bs m x → Most bs m y → x ≤ y := fun {x y} h h' => by
    rcases h.2 with e | ⟨k, b, n, h1, h2, e⟩
    · omega
    · rw [e]; exact h'.1 k b n h1 h2
  exact Nat.le_antisymm (key h h') (key h' h)
end Go.Ss
namespace Go.Proofs.Ytehelljmaiophaa.ss
set_option maxRecDepth 100000
open Go.Eng Go.RowKit Go.Ss
set_option linter.unusedVariables false
set_option linter.unusedSimpArgs false
theorem Int1_calls (s0 : World) (v u : Nat) (b1 bv bu B c g : Nat) (O : Nat → Prop) (s : List Bool) (n : Int) (x : Bool) (X : Eng.Item) (S : List World) (w : World) (hv : v < s.length) (hu : u < s.length) (hs0 : s0 ∈ S) (hB : AllLe S B) (hX : ∀ k, k < s0.heap.size → ¬ X.own k) (hb1 : s0.heap.size ≤ b1)
    (hcv : s0.cell? ⟨bv, 0, none⟩ = some (.int .i64 (v : Int))) (hbv : bv < s0.heap.size) (hcu : s0.cell? ⟨bu, 0, none⟩ = some (.int .i64 (u : Int))) (hbu : bu < s0.heap.size)
    (hc : Cls [row B O (some ⟨g, 0, none⟩) s.length c 4 1 (bls s), X, blk b1 4 [.bool x]] S w) :
    Calls Try.prog 67 [.int .i64 n, .slice (some ⟨g, 0, none⟩) s.length c, .pointer (some ⟨b1, 0, none⟩), .pointer (some ⟨bv, 0, none⟩), .pointer (some ⟨bu, 0, none⟩)].toArray w fun e w' => e = .returned (.tuple #[]) ∧
      Cls [row B O (some ⟨g, 0, none⟩) s.length c 4 1 (bls s), X, blk b1 4 [.bool (x || (s.getD v false && s.getD u false))]] S w' := by
  have hgv : (bls s)[0 + (v : Int).toNat * 1]? = some (.bool (s.getD v false)) := by rw [show 0 + (v : Int).toNat * 1 = v by omega]; exact bls_get (getD_true hv)
  have hgu : (bls s)[0 + (u : Int).toNat * 1]? = some (.bool (s.getD u false)) := by rw [show 0 + (u : Int).toNat * 1 = u by omega]; exact bls_get (getD_true hu)
  have hB0 : s0.heap.size ≤ B := hB.mem s0 hs0
  have hno : ∀ k, k < s0.heap.size → NotOwned [row B O (some ⟨g, 0, none⟩) s.length c 4 1 (bls s), X, blk b1 4 [.bool x]] k := fun k hk => NotOwned.row (by omega) (NotOwned.any (hX k hk) (NotOwned.blk (by omega) NotOwned.nil))
  refine enter Try.func67 rfl Try.ntmps67 rfl hc ?_
  (simp only [argEnv, Nat.zero_add, Nat.reduceAdd])
  apply W.reg
  apply old; rfl; rfl; exact .tail _ (.tail _ (.head _)); rfl; rfl
  apply omv; rfl; rfl
  apply ono; rfl; rfl; rfl; apply Pev.move; rfl; exact yes
  apply ono; rfl; rfl; rfl; apply Pev.load_kept; rfl; exact yes; assumption; rfl; intro hcond; assumption; intro hcond; assumption; intro hcond; exact NotOwned.au
  apply ono; rfl; rfl; rfl; apply Pev.idxB; rfl; exact fun h => h; rfl; exact fun h => h; rfl; intro hcond; omega; rfl
  apply ono; rfl; rfl; rfl; apply Pev.load_row; rfl; exact fun h => h; exact .head _; rfl; assumption
  apply ono; rfl; rfl; rfl; apply Pev.move; rfl; exact fun h => h
  apply OL.op; exact Guard.cyes rfl rfl; rfl; rfl; apply Pev.move; rfl; exact yes
  apply OL.op; exact Guard.cyes rfl rfl; rfl; rfl; apply Pev.load_kept; rfl; exact yes; assumption; rfl; intro hcond; assumption; intro hcond; assumption; intro hcond; exact NotOwned.au
  apply OL.op; exact Guard.cyes rfl rfl; rfl; rfl; apply Pev.idxB; rfl; exact fun h => h; rfl; exact fun h => h; rfl; intro hcond; omega; rfl
  apply OL.op; exact Guard.cyes rfl rfl; rfl; rfl; apply Pev.load_row; rfl; exact fun h => h; exact .head _; rfl; assumption
  apply ono; rfl; rfl; rfl; apply Pev.pick_and; rfl; exact fun h => h; rfl; exact fun h => h
  apply oop; rfl; apply Pev.pick_or; rfl; exact yes; rfl; exact fun h => h
  apply OL.storeB; rfl; rfl; exact CellsL.one rfl; rfl; rfl; rfl; exact Swap.au; exact Put.au
  apply OL.nil
  exact At.end_ (At.fin0 rfl (fun w' hw' => ⟨rfl, hw'⟩))

theorem Interfere_calls (fn : Go.Ss.Fn) (y : FnY) (v u : Int) (w : World) (hfn : FnOk w (low w) fn y) :
    Calls Try.prog 19 [.agg (fnC fn y).toArray, .int .i64 v, .int .i64 u].toArray w fun e w' => Ext w w' ∧ ((funcE fn ≠ 0 ∧ e = .returned (.tuple #[.bool false, .int .i64 (funcE fn)])) ∨
      (funcE fn = 0 ∧ e = .returned (.tuple (if ¬ (v ∈ defsF fn.blocks ∧ u ∈ defsF fn.blocks) then #[.bool false, .int .i64 12] else if v = u then #[.bool false, .int .i64 1] else #[.bool (bothB fn.blocks v u), .int .i64 0])))) := by
  obtain ⟨er, her⟩ : ∃ er, funcE fn = er := ⟨_, rfl⟩
  rw [her]
  have hfn0 := hfn
  refine enter Try.func19 rfl Try.ntmps19 rfl (Cls.start w) ?_
  (simp only [argEnv, Nat.zero_add, Nat.reduceAdd])
  obtain ⟨es, hes, he⟩ := hfn.b
  obtain ⟨nm, bs⟩ := fn
  obtain ⟨q, cap⟩ := y
  simp only at hes he
  have hbl2 : es.length = bs.length := by rw [← hes, List.length_map]
  simp only [fnC]
  have hF : ∀ (H : List Eng.Item) (S : List World) (w2 : World), Cls H S w2 → w ∈ S → (∀ k, k < w.heap.size → NotOwned H k) → FnOk w2 (low w2) ⟨nm, bs⟩ ⟨q, cap⟩ := fun H S w2 hw2 hs hno => fnR.mono (hw2.up hs) (fnR.stab (hw2.same hs hno) hfn0)
  have hBu := fun w2 (H : List Eng.Item) (S : List World) hw2 hs hno => build_calls ⟨nm, bs⟩ ⟨q, cap⟩ w2 (hF H S w2 hw2 hs hno)
  simp only [fnC, her] at hBu
  apply W.sr
  apply OL.box; rfl; rfl; exact CellsL.agg; (intro bk hbk; simp only [AllLe, and_true] at hbk)
  apply OL.box; rfl; rfl; exact CellsL.one rfl; (intro bk hbk; simp only [AllLe, and_true] at hbk)
  apply OL.box; rfl; rfl; exact CellsL.one rfl; (intro bk hbk; simp only [AllLe, and_true] at hbk)
  apply oas; rfl; rfl
  apply oas; rfl; rfl
  apply OL.nsr
  apply oop; rfl; apply Pev.load_blkA; rfl; exact yes; exact .tail _ (.tail _ (.head _)); rfl; exact Take.au
  rename_i b3 hb3x b4 hb4x
  revert bk
  intro b5 hb5x
  have hb3 : w.heap.size ≤ b3 := by first | exact hb3x | exact hb3x.1
  have hb4 : w.heap.size ≤ b4 := by first | exact hb4x | exact hb4x.1
  have hb5 : w.heap.size ≤ b5 := by first | exact hb5x | exact hb5x.1
  refine OL.frz (C' := fun w0 => Cls [] [w0, w]) (fun w0 hc0 => (hc0.thin (.any (fun k hk => by rw [show k = b5 from hk]; exact ⟨hb5, trivial⟩) (.any (fun k hk => by rw [show k = b4 from hk]; exact ⟨hb4, trivial⟩) (.any (fun k hk => by rw [show k = b3 from hk]; exact ⟨hb3, trivial⟩) Thin.nil)))).note) (fun w0 hc0 => ?_)
  have hw0 : w.heap.size ≤ w0.heap.size := (hc0.kp w (.head _)).size
  have hi3 := hc0.item (i := blk b3 24 [.int .i64 nm, .slice q bs.length cap]) (by exact mau)
  have hi4 := hc0.item (i := blk b4 3 [.int .i64 v]) (by exact mau)
  have hi5 := hc0.item (i := blk b5 3 [.int .i64 u]) (by exact mau)
  have hb30 := blk_lt hi3
  have hb40 := blk_lt hi4
  have hb50 := blk_lt hi5
  have hc3 : CellsAt w0 ⟨b3, 0, none⟩ [.int .i64 nm, .slice q bs.length cap] := fun j v hj => by rw [add_mid, blk_cell hi3, Nat.zero_add]; exact hj
  have hc31 : w0.cell? ⟨b3, 0 + 1, none⟩ = some (.slice q bs.length cap) := hc3 1 _ rfl
  have hc4 : w0.cell? ⟨b4, 0, none⟩ = some (.int .i64 v) := by rw [blk_cell hi4]; rfl
  have hc5 : w0.cell? ⟨b5, 0, none⟩ = some (.int .i64 u) := by rw [blk_cell hi5]; rfl
  skip
  by_cases hne : er ≠ 0
  · (((first | (with_reducible apply OL.op) | (with_reducible apply QL.op)); (exact Guard.au); rfl; rfl); (exact Pev.call (v := .tuple #[.pointer none, .slice none 0 0, .int .i64 er]) rfl (by exact Args.au) (fun _ w2 hw2 => (hBu w2 _ _ hw2 (by exact mau) (fun k hk => NotOwned.nil)).mono (fun e w3 h => ⟨by rcases h.2 with h2 | h2; exact h2.2; exact absurd h2.1 hne, hw2.ext h.1⟩))))
    apply omv; rfl; rfl
    apply oex; rfl; rfl; rfl
    apply oex; rfl; rfl; rfl
    apply oex; rfl; rfl; rfl
    apply oas; rfl; rfl
    apply oas; rfl; rfl
    apply oas; rfl; rfl
    apply OL.nx
    apply W.sb
    apply W.sr
    apply omv; rfl; rfl
    apply obn; rfl; rfl; rfl; apply Bin.neq
    apply oas; rfl; rfl
    apply OL.nx
    refine W.cond rfl (fun _ => ?_) (fun h => by simp at h; exact absurd h hne)
    apply W.sr
    apply omv; rfl; rfl
    apply oas; rfl; rfl
    apply oas; rfl; rfl
    apply OL.nx
    refine W.rt ?_
    ((with_reducible apply At.fin2); rfl; rfl; rfl; intro w' hw')
    exact ⟨hw'.fr (by exact mau) (fun k hk => NotOwned.nil), .inl ⟨hne, rfl⟩⟩
  have he0 : er = 0 := Classical.not_not.1 hne
  subst he0
  obtain ⟨h0, h128, hs0⟩ := func_zero her
  simp only at h0 h128 hs0
  obtain ⟨m, hm⟩ : ∃ m, (freshF bs).toNat + 1 = m := ⟨_, rfl⟩
  obtain ⟨hfr0, hfr1, hfrd⟩ := fresh_bounds hs0
  have hbd := bnd_of her (m := m) (by omega)
  simp only [hm] at hBu ⊢
  have hm0 : 0 < m := by omega
  have hm1 : m ≤ 1000000 := by omega
  refine OL.callE (α := (Nat × Nat × Nat × List (List Bool × Sc) × List (List Bool × Sc)) × World) (fun z => .tuple #[.pointer (some ⟨z.1.1, 0, none⟩), .slice (some ⟨z.1.2.2.1, 0, none⟩) bs.length bs.length, .int .i64 0]) (fun z => Ext w z.2 ∧ Ext w0 z.2 ∧ Built z.2 ⟨nm, bs⟩ ⟨q, cap⟩ m z.1.1 z.1.2.1 z.1.2.2.1 z.1.2.2.2.1 z.1.2.2.2.2) (fun z => Cls [] [z.2, w0, w]) rfl rfl (by exact Args.au) (fun w2 hw2 => (hBu w2 _ _ hw2 (by exact mau) (fun k hk => NotOwned.nil)).mono fun e w3 ⟨h2, h3⟩ => ?_) ?_
  · rcases h3 with ⟨h3, _⟩ | ⟨_, bL, bB, bF, B, F, h4, h5⟩
    · exact absurd rfl h3
    · have hx := hw2.ext h2
      exact ⟨((bL, bB, bF, B, F), w3), h4, ⟨hx.toExt (by exact mau) (fun k hk => NotOwned.nil), hx.toExt (by exact mau) (fun k hk => NotOwned.nil), h5⟩, hx.note⟩
  rintro ⟨⟨bL, bB, bF, B, F⟩, wB⟩ ⟨hxB, hx0B, hbu⟩
  simp only at hxB hx0B hbu ⊢
  have hw0B := hx0B.size
  have hwB := hxB.size
  have heB := he.ext hxB
  have hBl : B.length = bs.length := by have := hbu.st.bl; simpa using this
  have hSSB : ∀ s ∈ [wB, w0, w], s.heap.size ≤ wB.heap.size := fun s hs => by
    simp only [List.mem_cons, List.not_mem_nil, or_false] at hs
    rcases hs with rfl | rfl | rfl
    · exact Nat.le_refl _
    · exact hw0B
    · exact hwB
  have hLim : ∀ x, wB.heap.size ≤ x → AllLe [wB, w0, w] x := fun x hx => ⟨hx, Nat.le_trans hw0B hx, Nat.le_trans hwB hx, trivial⟩
  have hLife := hbu.life
  simp only [← hbl2] at hLife
  apply omv; rfl; rfl
  apply oex; rfl; rfl; rfl
  apply oex; rfl; rfl; rfl
  apply oex; rfl; rfl; rfl
  apply oas; rfl; rfl
  apply oas; rfl; rfl
  apply oas; rfl; rfl
  apply OL.nx
  apply W.sb
  apply W.sr
  apply omv; rfl; rfl
  apply obn; rfl; rfl; rfl; apply Bin.neq
  apply oas; rfl; rfl
  apply OL.nx
  refine W.cond rfl (fun h => by simp at h) (fun _ => ?_)
  apply W.sr
  apply oop; rfl; apply Pev.load_keptA; rfl; exact yes; exact .tail _ (.head _); rfl; intro hcond; assumption; rfl; intro hcond; assumption; intro hcond; exact NotOwned.au
  apply oop; rfl; apply Pev.load_kept; rfl; exact yes; exact .tail _ (.head _); rfl; intro hcond; assumption; intro hcond; assumption; intro hcond; exact NotOwned.au
  have hDf := fun v w2 (h : Arr bkR w2 (low w2) es q) => defined_calls es q cap nm v w2 h (by omega)
  simp only [hes, hbl2] at hDf
  (((first | (with_reducible apply OL.op) | (with_reducible apply QL.op)); (exact Guard.au); rfl; rfl); (exact Pev.call (v := .bool (decide (v ∈ defsF bs))) rfl (by exact Args.au) (fun _ w2 hw2 => (hDf v w2 (he.at hw2 (by exact mau) (fun k hk => NotOwned.nil))).mono (fun e w3 h => ⟨h.1, hw2.ext h.2⟩))))
  apply oop; rfl; apply Pev.not; rfl; exact yes
  apply omv; rfl; rfl
  apply ono; rfl; rfl; rfl; apply Pev.load_keptA; rfl; exact yes; exact .tail _ (.head _); rfl; intro hcond; assumption; rfl; intro hcond; assumption; intro hcond; exact NotOwned.au
  apply ono; rfl; rfl; rfl; apply Pev.load_kept; rfl; exact yes; exact .tail _ (.head _); rfl; intro hcond; assumption; intro hcond; assumption; intro hcond; exact NotOwned.au
  (((first | (with_reducible apply OL.op) | (with_reducible apply QL.op)); (exact Guard.au); rfl; rfl); (exact Pev.call (v := .bool (decide (u ∈ defsF bs))) rfl (by exact Args.au) (fun _ w2 hw2 => (hDf u w2 (he.at hw2 (by exact mau) (fun k hk => NotOwned.nil))).mono (fun e w3 h => ⟨h.1, hw2.ext h.2⟩))))
  apply ono; rfl; rfl; rfl; apply Pev.not; rfl; exact fun h => h
  apply oop; rfl; apply Pev.pick_or; rfl; exact yes; rfl; exact fun h => h
  apply oas; rfl; rfl
  apply OL.nx
  refine W.cond rfl (fun h3 => ?_) (fun h3 => ?_)
  · have hnd : ¬ (v ∈ defsF bs ∧ u ∈ defsF bs) := fun h => by simp [h.1, h.2] at h3
    apply W.sr
    apply oas; rfl; rfl
    apply oas; rfl; rfl
    apply OL.nx
    refine W.rt ?_
    ((with_reducible apply At.fin2); rfl; rfl; rfl; intro w' hw')
    exact ⟨hw'.fr (by exact mau) (fun k hk => NotOwned.nil), .inr ⟨by trivial, by rw [if_pos hnd]⟩⟩
  have hd : v ∈ defsF bs ∧ u ∈ defsF bs := by simpa using h3
  apply W.sr
  apply oop; rfl; apply Pev.load_kept; rfl; exact yes; exact .tail _ (.head _); rfl; intro hcond; assumption; intro hcond; assumption; intro hcond; exact NotOwned.au
  apply oop; rfl; apply Pev.load_kept; rfl; exact yes; exact .tail _ (.head _); rfl; intro hcond; assumption; intro hcond; assumption; intro hcond; exact NotOwned.au
  apply obn; rfl; rfl; rfl; apply Bin.eql
  apply oas; rfl; rfl
  apply OL.nx
  refine W.cond rfl (fun h4 => ?_) (fun h4 => ?_)
  · have hvu : v = u := of_decide_eq_true h4
    apply W.sr
    apply oas; rfl; rfl
    apply oas; rfl; rfl
    apply OL.nx
    refine W.rt ?_
    ((with_reducible apply At.fin2); rfl; rfl; rfl; intro w' hw')
    exact ⟨hw'.fr (by exact mau) (fun k hk => NotOwned.nil), .inr ⟨by trivial, by rw [if_neg (not_not_intro hd), if_pos hvu]⟩⟩
  have hvu : ¬ v = u := of_decide_eq_false h4
  obtain ⟨v', hv'⟩ : ∃ v' : Nat, v = (v' : Int) := ⟨v.toNat, by have := hfrd v hd.1; omega⟩
  obtain ⟨u', hu'⟩ : ∃ u' : Nat, u = (u' : Int) := ⟨u.toNat, by have := hfrd u hd.2; omega⟩
  have hvm : v' < m := by have := hfrd v hd.1; omega
  have hum : u' < m := by have := hfrd u hd.2; omega
  rw [hv'] at hc4
  rw [hu'] at hc5
  apply W.skip
  with_reducible apply At.in_normal
  with_reducible apply At.next
  apply W.sr
  apply OL.alloc; rfl; rfl; exact CellsL.one rfl; (intro bk hbk; simp only [AllLe, and_true] at hbk)
  apply OL.storeB; rfl; rfl; exact CellsL.one rfl; rfl; rfl; rfl; exact Swap.au; exact Put.au
  apply OL.nx
  apply W.seq
  apply W.sr
  apply ofa; rfl; rfl; rfl
  apply oop; rfl; apply Pev.load_kept; rfl; exact yes; exact .tail _ (.head _); rfl; intro hcond; assumption; intro hcond; assumption; intro hcond; exact NotOwned.au
  apply oop; rfl; apply Pev.len_slice; rfl; exact yes; rfl
  apply omv; rfl; rfl
  apply OL.nx
  apply W.block
  revert bk
  intro b11 hb11
  have hb11B : wB.heap.size ≤ b11 := hb11.1
  have hc4B : wB.cell? ⟨b4, 0, none⟩ = some (.int .i64 (v' : Int)) := by
    rw [cell_heap (w := w0) (hx0B.block b4 hb40 id)]
    exact hc4
  have hc5B : wB.cell? ⟨b5, 0, none⟩ = some (.int .i64 (u' : Int)) := by
    rw [cell_heap (w := w0) (hx0B.block b5 hb50 id)]
    exact hc5
  refine W.loop (G := Nat × Bool) (fun z => z.1 ≤ bs.length ∧ (z.2 = true ↔ ∃ (k : Nat) (b : Bk) (n : Nat), k < z.1 ∧ bs[k]? = some b ∧ n ≤ b.ins.length ∧ LiveS bs v k n ∧ LiveS bs u k n)) (fun z => bs.length - z.1)
    (fun z => [(4, true, .pointer (some ⟨b4, 0, none⟩)), (5, true, .pointer (some ⟨b5, 0, none⟩)), (8, true, .pointer (some ⟨bL, 0, none⟩)), (11, true, .pointer (some ⟨b11, 0, none⟩)), (40, true, .int .i64 (bs.length : Int)), (41, true, .int .i64 (z.1 : Int))])
    (fun z => Cls [blk b11 4 [.bool z.2]] [wB, w0, w])
    (0, false) ⟨by simp, by simp⟩ (by exact Sub.au) (fun w' hw' => hw') ?_
  rintro ⟨k, x0⟩ ⟨hk, hx0⟩
  simp only at hk hx0 ⊢
  apply W.sr
  apply obn; rfl; rfl; rfl; apply Bin.lss
  apply OL.nx
  apply W.seq
  (refine W.cnd (fun hlt => ?_) (fun hlt => ?_)) <;> (try (exfalso; first | omega | exact hlt trivial | contradiction))
  · have hkl : k < es.length := by omega
    obtain ⟨b, hkb⟩ : ∃ b, bs[k]? = some b := ⟨_, List.getElem?_eq_getElem (by omega)⟩
    have hgb : bs.getD k noB = b := by rw [List.getD_eq_getElem?_getD, hkb]; rfl
    obtain ⟨pB, hpB⟩ : ∃ p, B[k]? = some p := ⟨_, List.getElem?_eq_getElem (by omega)⟩
    obtain ⟨hpBl, hpBo⟩ := hbu.bo pB (List.mem_of_getElem? hpB)
    have hon : ∀ (n z : Nat), n ≤ b.ins.length → (On (backS (b.ins.drop n) pB.1) z ↔ LiveS bs (z : Int) k n) := fun n z hn => hbu.live hbd hkb hpB hn z
    have hBk := back_calls wB es q cap nm bL bB m k B pB heB hkl (by rw [hes]; exact hbd) hm1 hm0 hLife hbu.b hpB hpBl hpBo [wB, w0, w] (.head _) hSSB (fun x : Bool => [blk b11 4 [.bool x]])
      (fun n' x => x = true ↔ (x0 = true ∨ ∃ j, n' ≤ j ∧ j ≤ b.ins.length ∧ LiveS bs v k j ∧ LiveS bs u k j)) x0 67 [] [.pointer (some ⟨b11, 0, none⟩), .pointer (some ⟨b4, 0, none⟩), .pointer (some ⟨b5, 0, none⟩)] rfl
    simp only [hes, hgb] at hBk
    have hBk2 := hBk ⟨fun h => .inl h, fun h => h.elim id fun ⟨j, h1, h2, _⟩ => by omega⟩ (fun x k hk => NotOwned.blk (by omega) NotOwned.nil) (fun n x B' O' g' c' X w' hn hx hB' hX hw' => by
      have hl : (backS (b.ins.drop n) pB.1).length = m := by rw [backS_length, hpBl]
      rw [← hl] at hw' ⊢
      refine (Int1_calls wB v' u' b11 b4 b5 B' c' g' O' _ n x X [wB, w0, w] w' (by rw [hl]; exact hvm) (by rw [hl]; exact hum) (.head _) hB' hX hb11B hc4B (by omega) hc5B (by omega) hw').mono fun e w'' ⟨h1, h2⟩ => ⟨_, h1, ?_, h2⟩
      rw [Bool.or_eq_true, Bool.and_eq_true, ← on_getD, ← on_getD, hon n v' hn, hon n u' hn, hx, ← hv', ← hu']
      constructor
      · rintro ((h3 | ⟨j, h3, h4, h5⟩) | h3)
        · exact .inl h3
        · exact .inr ⟨j, by omega, h4, h5⟩
        · exact .inr ⟨n, Nat.le_refl _, hn, h3⟩
      · rintro (h3 | ⟨j, h3, h4, h5⟩)
        · exact .inl (.inl h3)
        · by_cases e : j = n
          · subst e; exact .inr h5
          · exact .inl (.inr ⟨j, by omega, h4, h5⟩))
    apply W.sk
    apply W.sb
    apply W.sr
    apply omv; rfl; rfl
    apply oas; rfl; rfl
    apply OL.nx
    apply W.reg
    apply omv; rfl; rfl
    apply omv; rfl; rfl
    apply oop; rfl; apply Pev.makeFunc; exact Args.au; exact Args.au
    refine OL.callE (α := Value × Bool) (fun z => z.1) (fun z => z.2 = true ↔ (x0 = true ∨ ∃ j, 0 ≤ j ∧ j ≤ b.ins.length ∧ LiveS bs v k j ∧ LiveS bs u k j)) (fun z => Cls [blk b11 4 [.bool z.2]] [wB, w0, w]) rfl rfl (by exact Args.au) (fun w2 hw2 => (hBk2 w2 hw2).mono fun e w3 ⟨vv, x', h1, h2, h3⟩ => ⟨(vv, x'), h1, h2, h3⟩) ?_
    rintro ⟨vv, x'⟩ hx'
    simp only at hx' ⊢
    apply OL.nil
    with_reducible apply At.in_normal
    with_reducible apply At.next
    apply W.reg
    apply obn; rfl; rfl; rfl; apply Bin.add_in; omega
    apply omv; rfl; rfl
    apply OL.nil
    refine At.again (k + 1, x') ⟨by simp only; omega, ?_⟩ (by simp only; omega) (by exact Sub.au) (fun w' hw' => hw')
    simp only
    rw [hx', hx0]
    constructor
    · rintro (⟨k', b', n', h1, h2⟩ | ⟨j, _, h1, h2⟩)
      · exact ⟨k', b', n', by omega, h2⟩
      · exact ⟨k, b, j, by omega, hkb, h1, h2⟩
    · rintro ⟨k', b', n', h1, h2, h3, h4⟩
      by_cases e : k' = k
      · subst e
        rw [hkb] at h2
        obtain rfl := Option.some.inj h2
        exact .inr ⟨n', Nat.zero_le _, h3, h4⟩
      · exact .inl ⟨k', b', n', by omega, h2, h3, h4⟩
  · obtain rfl : k = bs.length := by omega
    refine W.xt ?_
    with_reducible apply At.next
    apply W.sr
    apply old; rfl; rfl; exact .head _; rfl; rfl
    apply oas; rfl; rfl
    apply oas; rfl; rfl
    apply OL.nx
    apply W.ret
    ((with_reducible apply At.fin2); rfl; rfl; rfl; intro w' hw')
    refine ⟨hw'.toExt (by exact mau) (fun k hk => NotOwned.blk (by omega) NotOwned.nil), .inr ⟨by trivial, ?_⟩⟩
    rw [if_neg (not_not_intro hd), if_neg hvu, bothB_eq (x := x0) (hx0.trans ⟨fun ⟨k, b, n, _, h⟩ => ⟨k, b, n, h⟩, fun ⟨k, b, n, h1, h⟩ => ⟨k, b, n, (List.getElem?_eq_some_iff.1 h1).1, h1, h⟩⟩)]
end Go.Proofs.Ytehelljmaiophaa.ss

/- A region that draws its order, whose pure operations come first, whatever its other ones wait for, and whose other ones then follow one behind another. General. No condition. -/
namespace Go.Eng
open Go.RowKit
set_option linter.unusedVariables false
set_option linter.unusedSimpArgs false

/-- an operation that makes nothing and writes nothing -/
def pureB (o : Oper) : Bool := match o.op with
  | .move _ => true
  | .assign _ => true
  | .pick .. => true
  | .build .. => true
  | .load .. => true
  | .nilCheck _ => true
  | .binOp .. => true
  | .unOp .. => true
  | .convert .. => true
  | .makeFunc .. => true
  | .slice .. => true
  | .fieldAddr .. => true
  | .field .. => true
  | .indexAddr .. => true
  | .index .. => true
  | .lookup .. => true
  | .extract .. => true
  | .call c => match c.callee with
    | .builtin .len => true
    | .builtin .min => true
    | .builtin .max => true
    | _ => false
  | _ => false
/-- an operation that looks at memory -/
def depB (o : Oper) : Bool := match o.op with
  | .load .. => true
  | .lookup .. => true
  | .index .. => true
  | .convert .. => true
  | _ => false

section
variable {P : Program} {ops : Array Oper} {C0 : World → Prop}
theorem value_only {M : Sem Value} {w : World} {n : Next} {w' : World} (h : (do pure (.value (← M)) : Sem Next).run P w = .ok n w') : ∃ u, n = .value u := by
  rw [Sem.run_bind] at h
  generalize M.run P w = r at h
  cases r with
  | ok v w1 => simp [Result.andThen] at h; exact ⟨v, h.1.symm⟩
  | halt x w1 => simp [Result.andThen] at h
theorem value_bind {α : Type} {M : Sem α} {f : α → Sem Next} (hf : ∀ x w n w', (f x).run P w = .ok n w' → ∃ u, n = .value u) (w : World) (n : Next) (w' : World) (h : (M >>= f).run P w = .ok n w') : ∃ u, n = .value u := by
  rw [Sem.run_bind] at h
  generalize M.run P w = r at h
  cases r with
  | ok v w1 => exact hf _ _ _ _ h
  | halt x w1 => simp [Result.andThen] at h
theorem pure_value {o : Oper} {ρ : Operand → Value} {w : World} {n : Next} {w' : World} (hp : pureB o = true) (h : (execOp ρ o).run P w = .ok n w') : ∃ u, n = .value u := by
  obtain ⟨dst, op, type, pos, after, guard⟩ := o
  cases op <;> simp only [pureB, Bool.false_eq_true] at hp <;> simp only [execOp] at h <;> try (exact value_only h)
  case move x => simp at h; exact ⟨_, h.1.symm⟩
  case assign x => simp at h; exact ⟨_, h.1.symm⟩
  case pick c a b =>
    rw [Sem.run_bind] at h
    generalize (asBool (ρ c)).run P w = r at h
    cases r with
    | ok v w1 => simp [Result.andThen] at h; exact ⟨_, h.1.symm⟩
    | halt x w1 => simp [Result.andThen] at h
  case nilCheck x =>
    split at h
    · simp [runtimePanic] at h
    · simp [runtimePanic] at h
    · simp [runtimePanic] at h
    · split at h
      · simp [runtimePanic] at h
      · refine value_bind (fun p => value_bind (fun q => ?_)) _ _ _ h
        intro w n w' h
        split at h
        · simp only [unsupported, Sem.run_bind] at h
          simp at h
        · simp at h; exact ⟨_, h.1.symm⟩
      · simp at h; exact ⟨_, h.1.symm⟩
    · simp at h; exact ⟨_, h.1.symm⟩
  case call c =>
    obtain ⟨callee, args, ats⟩ := c
    cases callee with
    | builtin b =>
      cases b <;> simp only [Bool.false_eq_true] at hp <;> simp only [resolve, invoke, builtin, Sem.run_bind, Sem.run_pure, Result.andThen_ok] at h
      case len =>
        generalize (Builtin.len_ ats type (Array.map ρ args)).run P w = r at h
        cases r with
        | ok v w1 => simp [Result.andThen] at h; exact ⟨v, h.1.symm⟩
        | halt x w1 => simp [Result.andThen] at h
      case min =>
        generalize (Builtin.min_ ats type (Array.map ρ args)).run P w = r at h
        cases r with
        | ok v w1 => simp [Result.andThen] at h; exact ⟨v, h.1.symm⟩
        | halt x w1 => simp [Result.andThen] at h
      case max =>
        generalize (Builtin.max_ ats type (Array.map ρ args)).run P w = r at h
        cases r with
        | ok v w1 => simp [Result.andThen] at h; exact ⟨v, h.1.symm⟩
        | halt x w1 => simp [Result.andThen] at h
    | value f => simp at hp
    | invoke r m => simp at hp
theorem still_of {D : World → Prop} {o : Oper} {ρ : Operand → Value} {w : World} {v : Value} (hp : pureB o = true) (h : Oper.quietUpon P D w v ((execOp ρ o).run P w)) : (execOp ρ o).run P w = .ok (.value v) w := by
  cases hr : (execOp ρ o).run P w with
  | ok n w' =>
    obtain ⟨u, rfl⟩ := pure_value hp hr
    rw [hr] at h
    simp only [Oper.quietUpon] at h
    rw [h.1, h.2]
  | halt x w' => rw [hr] at h; simp only [Oper.quietUpon] at h

/-! ### What one operation yields, where the class is asked of operations that look at memory alone -/
def YieldsZ (P : Program) (ops : Array Oper) (C0 : World → Prop) (o : Oper) (v : Value) (a : Act) : Prop :=
  (Region.wanted o (yielded ops a.tmps) = true ∧ ∀ w, (depB o = true → C0 w) → (execOp a.eval o).run P w = .ok (.value v) w) ∨
  (Region.wanted o (yielded ops a.tmps) = false ∧ v = undef)
theorem YieldsZ.of_same {o : Oper} {v : Value} {a a' : Act} (hy : YieldsZ P ops C0 o v a) (he : execOp a'.eval o = execOp a.eval o)
    (hw : Region.wanted o (yielded ops a'.tmps) = Region.wanted o (yielded ops a.tmps)) : YieldsZ P ops C0 o v a' := by
  unfold YieldsZ at *
  rw [he, hw]
  exact hy
variable {Q : Exit → Act → World → Prop}
theorem YieldsZ.wpOp {i : Nat} {o : Oper} {v : Value} {a : Act} (hi : ops[i]? = some o) (hy : YieldsZ P ops C0 o v a) {K : Act → World → Prop} {w : World} (hw0 : depB o = true → C0 w) (h : K (a.put o.dst v) w) : wpOp P ops Q i K a w := by
  unfold Go.wpOp
  simp only [hi]
  rcases hy with ⟨hw, hv⟩ | ⟨hw, rfl⟩
  · simp only [hw, if_true, Oper.wp, hv w hw0, Oper.upon]; exact .inl h
  · simp only [hw, Bool.false_eq_true, if_false]; exact h
theorem wpOp_putZ {j : Nat} {oi oj : Oper} {v : Value} (hj : ops[j]? = some oj) (hap : oi.apart ops oj = true)
    (hsi : ∀ cs b, oi.op ≠ .select cs b) (hsj : ∀ cs b, oj.op ≠ .select cs b) (hQ : ∀ c a w, ¬ Q (.panic c) a w) {K : Act → World → Prop} {a : Act} {w : World}
    (hy : YieldsZ P ops C0 oi v a) (h : wpOp P ops Q j K (a.put oi.dst v) w) :
    wpOp P ops Q j (fun a' w' => YieldsZ P ops C0 oi v a' ∧ K (a'.put oi.dst v) w') a w := by
  obtain ⟨h1, h2, h3⟩ := Oper.apart_spec hap
  have keep : ∀ (a : Act), YieldsZ P ops C0 oi v a → ∀ u, YieldsZ P ops C0 oi v (a.put oj.dst u) := fun a hy u =>
    hy.of_same (execOp_put oi hsi a oj.dst u h3) (wanted_put oi a oj.dst u h3)
  have keepD : ∀ d, YieldsZ P ops C0 oi v { a with defers := d :: a.defers } := fun d => hy.of_same rfl rfl
  unfold Go.wpOp at *
  simp only [hj] at *
  rw [wanted_put oj a oi.dst v h1] at h
  split
  · rename_i hw
    simp only [hw, if_true] at h
    rcases h with h | ⟨hasks, hlets⟩
    case inr => exact .inr ⟨by unfold Oper.asks at *; rw [execOp_put oj hsj a oi.dst v h1] at hasks; exact hasks, hlets⟩
    refine .inl ?_
    unfold Oper.wp at *
    rw [execOp_put oj hsj a oi.dst v h1] at h
    generalize (execOp a.eval oj).run P w = r at *
    cases r with
    | ok n w' =>
      cases n <;> simp only [Oper.upon] at h ⊢
      case value u => exact ⟨keep a hy u, by rw [← Act.put_comm a v u h2]; exact h⟩
      case skip => exact ⟨keep a hy _, by rw [← Act.put_comm a v undef h2]; exact h⟩
      case defer d =>
        refine ⟨keep _ (keepD d) _, ?_⟩
        rw [← Act.put_comm _ v undef h2, ← Act.put_defers]
        exact h
      case enter f args =>
        refine Calls.mono h fun e w'' he => ?_
        cases e with
        | returned u => exact ⟨keep a hy u, by rw [← Act.put_comm a v u h2]; exact he⟩
        | panicked c => exact absurd he (hQ _ _ _)
        | outgrown => exact he
      case row row args => exact Rows.mono h fun u w'' he => ⟨keep a hy u, by rw [← Act.put_comm a v u h2]; exact he⟩
    | halt x w' =>
      cases x <;> simp only [Oper.upon] at h ⊢
      case panic u => exact absurd h (hQ _ _ _)
  · rename_i hw
    simp only [hw] at h
    exact ⟨keep a hy _, by rw [← Act.put_comm a v undef h2]; exact h⟩

/-! ### Whatever order: what some operations keep is told -/
def wpZ (P : Program) (ops : Array Oper) (C0 : World → Prop) (need : Nat → Bool) (Q : Exit → Act → World → Prop) : Nat → Array Bool → Act → World → Prop
  | 0, li, a, w => Region.ready .any ops li = [] ∧ Q .normal a w
  | f + 1, li, a, w => (Region.ready .any ops li = [] → Q .normal a w) ∧ ∀ i ∈ Region.ready .any ops li, wpOp P ops Q i (fun a' w' => (need i = true → C0 w → C0 w') ∧ wpZ P ops C0 need Q f (li.setIfInBounds i true) a' w') a w
theorem wpAny_of_Z {need : Nat → Bool} : ∀ (f : Nat) (li : Array Bool) (a : Act) (w : World), wpZ P ops C0 need Q f li a w → wpAny P .any ops Q f li a w
  | 0, _, _, _, h => h
  | f + 1, li, a, w, h => ⟨h.1, fun i hi => wpOp_mono (fun a' w' h' => wpAny_of_Z f _ a' w' h'.2) (h.2 i hi)⟩

theorem wpZ_first {need : Nat → Bool} {i : Nat} {oi : Oper} {v : Value} (hi : ops[i]? = some oi) (hsel : ∀ (j : Nat) (o : Oper) cs b, ops[j]? = some o → o.op ≠ .select cs b) (hQ : ∀ c a w, ¬ Q (.panic c) a w) :
    ∀ (fuel : Nat) (li : Array Bool) (a : Act) (w : World), Dn ops li →
      (∀ j oj, ops[j]? = some oj → j ≠ i → li.getD j true = false → waitsB ops ops.size j i = false → oi.apart ops oj = true ∧ (depB oi = true → need j = true)) →
      i ∈ Region.ready .any ops li → YieldsZ P ops C0 oi v a → (depB oi = true → C0 w) →
      wpZ P ops C0 need Q fuel (li.setIfInBounds i true) (a.put oi.dst v) w → wpZ P ops C0 need Q (fuel + 1) li a w := by
  intro fuel
  induction fuel with
  | zero =>
    intro li a w hD _ hr hy hC H
    refine ⟨fun h => (by rw [h] at hr; cases hr), fun j hj => ?_⟩
    by_cases hji : j = i
    · subst hji; exact hy.wpOp hi hC ⟨fun _ h => h, H⟩
    · have := ready_mono hj hji
      rw [H.1] at this
      cases this
  | succ fuel ih =>
    intro li a w hD hfree hr hy hC H
    refine ⟨fun h => (by rw [h] at hr; cases hr), fun j hj => ?_⟩
    by_cases hji : j = i
    · subst hji; exact hy.wpOp hi hC ⟨fun _ h => h, H⟩
    · have h1 := H.2 j (ready_mono hj hji)
      obtain ⟨hjun, oj, hoj, hall⟩ := mem_ready.1 hj
      have hnw : waitsB ops ops.size j i = false := by
        cases hw : waitsB ops ops.size j i with
        | false => rfl
        | true =>
          have h2 := waits_done hD _ j oj hoj hall hw
          rw [getD_ft (mem_ready.1 hr).1] at h2
          cases h2
      obtain ⟨hap, hn⟩ := hfree j oj hoj hji hjun hnw
      have h2 := wpOp_putZ hoj hap (fun cs b => hsel i oi cs b hi) (fun cs b => hsel j oj cs b hoj) hQ hy h1
      have hfree' : ∀ k ok, ops[k]? = some ok → k ≠ i → (li.setIfInBounds j true).getD k true = false → waitsB ops ops.size k i = false → oi.apart ops ok = true ∧ (depB oi = true → need k = true) := fun k ok hk hki hun hno => by
        refine hfree k ok hk hki ?_ hno
        by_cases hjk : j = k
        · subst hjk; exact hjun
        · rw [getD_set_ne true hjk] at hun; exact hun
      refine wpOp_mono (fun a' w' h3 => ⟨h3.2.1, ih (li.setIfInBounds j true) a' w' (hD.set hj) hfree' (ready_mono hr (Ne.symm hji)) h3.1 (fun hd => h3.2.1 (hn hd) (hC hd)) ?_⟩) h2
      rw [Array.setIfInBounds_comm _ _ hji]
      exact h3.2.2

/-! ### The pure ones first -/
def freeZ (ops : Array Oper) (li : Array Bool) (i : Nat) : Bool :=
  match ops[i]? with
  | none => false
  | some oi => (List.range ops.size).all fun j => Nat.beq j i || (li.getD j true || (waitsB ops ops.size j i || (match ops[j]? with
      | some oj => oi.apart ops oj
      | none => true)))
/-- must operation k keep the class for one of the pure ones? -/
def needZ (ops : Array Oper) (xi : List Nat) (k : Nat) : Bool := xi.any fun i => (match ops[i]? with | some o => depB o | none => false) && !waitsB ops ops.size k i
theorem freeZ_spec {i : Nat} {oi : Oper} {li : Array Bool} {xi : List Nat} (hi : ops[i]? = some oi) (hx : i ∈ xi) (h : freeZ ops li i = true) (j : Nat) (oj : Oper) (hj : ops[j]? = some oj) (hne : j ≠ i) (hun : li.getD j true = false) (hno : waitsB ops ops.size j i = false) :
    oi.apart ops oj = true ∧ (depB oi = true → needZ ops xi j = true) := by
  simp only [freeZ, hi, List.all_eq_true, List.mem_range] at h
  have h1 := h j (Array.getElem?_eq_some_iff.1 hj).1
  have hb : Nat.beq j i = false := by
    rw [Bool.eq_false_iff]; intro hb; exact hne (Nat.eq_of_beq_eq_true hb)
  simp only [hj, hun, hno, hb, Bool.false_or] at h1
  refine ⟨h1, fun hd => List.any_eq_true.2 ⟨i, hx, ?_⟩⟩
  simp [hi, hd, hno]
def preZ (ops : Array Oper) : List Nat → Array Bool → Bool
  | [], _ => true
  | i :: r, li => (Region.ready .any ops li).contains i && (freeZ ops li i && preZ ops r (li.setIfInBounds i true))
def runZ : List Nat → Array Bool → Array Bool
  | [], li => li
  | i :: r, li => runZ r (li.setIfInBounds i true)
def seqZ (ops : Array Oper) : List Nat → Array Bool → Bool
  | [], li => (Region.ready .any ops li).isEmpty
  | k :: t, li => (Region.ready .any ops li == [k]) && seqZ ops t (li.setIfInBounds k true)
def wpZL (P : Program) (ops : Array Oper) (C0 : World → Prop) (K : Act → Prop) : List Oper → Act → Prop
  | [], a => K a
  | o :: r, a => if Region.wanted o (yielded ops a.tmps) then ∃ v, (∀ w, (depB o = true → C0 w) → (execOp a.eval o).run P w = .ok (.value v) w) ∧ wpZL P ops C0 K r (a.put o.dst v) else wpZL P ops C0 K r (a.put o.dst undef)
def wpT (P : Program) (ops : Array Oper) (C0 : World → Prop) (need : Nat → Bool) (Q : Exit → Act → World → Prop) : List (Nat × Oper) → Act → World → Prop
  | [], a, w => Q .normal a w
  | (k, _) :: r, a, w => wpOp P ops Q k (fun a' w' => (need k = true → C0 w') ∧ wpT P ops C0 need Q r a' w') a w
theorem wpZ_seq {need : Nat → Bool} : ∀ (y : List (Nat × Oper)) (li : Array Bool) (a : Act) (w : World), seqZ ops (y.map (·.1)) li = true → wpT P ops C0 need Q y a w → wpZ P ops C0 need Q y.length li a w
  | [], li, a, w, hB, h => ⟨by simpa [seqZ] using hB, h⟩
  | (k, o) :: r, li, a, w, hB, h => by
    simp only [List.map_cons, seqZ, Bool.and_eq_true, beq_iff_eq] at hB
    refine ⟨fun h' => (by rw [hB.1] at h'; cases h'), fun i hi => ?_⟩
    rw [hB.1, List.mem_singleton] at hi
    subst hi
    exact wpOp_mono (fun a' w' h3 => ⟨fun hn _ => h3.1 hn, wpZ_seq r _ a' w' hB.2 h3.2⟩) h
theorem wpZ_pre {xi0 : List Nat} (hs : Region.noSelect ops = true) (hQ : ∀ c a w, ¬ Q (.panic c) a w) {K : Act → Prop} {f : Nat} {w : World} (hw : C0 w) : ∀ (x : List (Nat × Oper)) (li : Array Bool) (a : Act), (∀ p ∈ x, p.1 ∈ xi0 ∧ ops[p.1]? = some p.2) → Dn ops li →
    preZ ops (x.map (·.1)) li = true → wpZL P ops C0 K (x.map (·.2)) a → (∀ a, K a → wpZ P ops C0 (needZ ops xi0) Q f (runZ (x.map (·.1)) li) a w) → wpZ P ops C0 (needZ ops xi0) Q (x.length + f) li a w
  | [], li, a, _, _, _, h, hK => by
    rw [List.length_nil, Nat.zero_add]; exact hK a h
  | (i, o) :: r, li, a, hx, hD, hB, h, hK => by
    obtain ⟨hmem, hi⟩ := hx _ (.head _)
    simp only [List.map_cons, preZ, Bool.and_eq_true] at hB
    obtain ⟨hr, hf, hB'⟩ := hB
    have hr' : i ∈ Region.ready .any ops li := by simpa using hr
    have key : ∃ v, YieldsZ P ops C0 o v a ∧ wpZL P ops C0 K (r.map (·.2)) (a.put o.dst v) := by
      simp only [List.map_cons, wpZL] at h
      split at h
      · rename_i hw
        obtain ⟨v, h1, h2⟩ := h
        exact ⟨v, .inl ⟨hw, h1⟩, h2⟩
      · rename_i hw
        exact ⟨undef, .inr ⟨by simpa using hw, rfl⟩, h⟩
    obtain ⟨v, hy, h2⟩ := key
    rw [List.length_cons, show r.length + 1 + f = (r.length + f) + 1 by omega]
    exact wpZ_first hi (Region.noSelect_spec hs) hQ _ li a w hD (freeZ_spec hi hmem hf) hr' hy (fun _ => hw)
      (wpZ_pre hs hQ hw r _ _ (fun p hp => hx p (.tail _ hp)) (hD.set hr') hB' h2 hK)

def NoPanic (Q : Exit → Act → World → Prop) : Exit → Act → World → Prop := fun e a w => match e with
  | .panic _ => False
  | e => Q e a w
theorem wpOp_np {i : Nat} {K : Act → World → Prop} {a : Act} {w : World} (h : wpOp P ops (NoPanic Q) i K a w) : wpOp P ops Q i K a w := by
  have hp : ∀ e a w, e ≠ .normal → NoPanic Q e a w → Q e a w := fun e a w _ h => by
    cases e <;> first | exact h | exact h.elim
  unfold wpOp at *
  split
  · rename_i ho; simp only [ho] at h; exact h
  · rename_i o ho
    simp only [ho] at h
    split
    · rename_i hw
      rw [if_pos hw] at h
      rcases h with h | ⟨h, a', w', hq⟩
      · refine .inl ?_
        unfold Oper.wp at h ⊢
        exact upon_Q hp h
      · exact .inr ⟨h, a', w', hq⟩
    · rename_i hw
      rw [if_neg hw] at h
      exact h
theorem wpAny_np : ∀ (f : Nat) (li : Array Bool) (a : Act) (w : World), wpAny P .any ops (NoPanic Q) f li a w → wpAny P .any ops Q f li a w
  | 0, _, _, _, h => h
  | f + 1, li, a, w, h => ⟨h.1, fun i hi => wpOp_np (wpOp_mono (fun a' w' h' => wpAny_np f _ a' w' h') (h.2 i hi))⟩
end

/-- the pure operations that wait for none of the others, and the others -/
inductive ZSplit : Nat → List Nat → List Oper → List (Nat × Oper) → List (Nat × Oper) → Prop where
  | nil {k : Nat} {tl : List Nat} : ZSplit k tl [] [] []
  | pure {k : Nat} {tl : List Nat} {o : Oper} {r : List Oper} {x y : List (Nat × Oper)} (hp : (pureB o && o.after.toList.all fun e => tl.all fun t => !Nat.beq t e.on) = true) (h : ZSplit (k + 1) tl r x y) : ZSplit k tl (o :: r) ((k, o) :: x) y
  | tail {k : Nat} {tl : List Nat} {o : Oper} {r : List Oper} {x y : List (Nat × Oper)} (h : ZSplit (k + 1) (k :: tl) r x y) : ZSplit k tl (o :: r) x ((k, o) :: y)
theorem ZSplit.spec {k : Nat} {tl : List Nat} {l : List Oper} {x y : List (Nat × Oper)} (h : ZSplit k tl l x y) : (∀ p ∈ x, k ≤ p.1 ∧ l[p.1 - k]? = some p.2 ∧ pureB p.2 = true) ∧ (∀ p ∈ y, k ≤ p.1 ∧ l[p.1 - k]? = some p.2) ∧ x.length + y.length = l.length := by
  induction h with
  | nil => simp
  | @pure k tl o r x y hp h ih =>
    simp only [Bool.and_eq_true] at hp
    refine ⟨fun p hpm => ?_, fun p hpm => ?_, by simp only [List.length_cons]; omega⟩
    · rcases List.mem_cons.1 hpm with rfl | hpm
      · exact ⟨Nat.le_refl _, by simp, hp.1⟩
      · obtain ⟨h1, h2, h3⟩ := ih.1 p hpm
        exact ⟨by omega, by rw [show p.1 - k = (p.1 - (k + 1)) + 1 by omega, List.getElem?_cons_succ]; exact h2, h3⟩
    · obtain ⟨h1, h2⟩ := ih.2.1 p hpm
      exact ⟨by omega, by rw [show p.1 - k = (p.1 - (k + 1)) + 1 by omega, List.getElem?_cons_succ]; exact h2⟩
  | @tail k tl o r x y h ih =>
    refine ⟨fun p hpm => ?_, fun p hpm => ?_, by simp only [List.length_cons]; omega⟩
    · obtain ⟨h1, h2, h3⟩ := ih.1 p hpm
      exact ⟨by omega, by rw [show p.1 - k = (p.1 - (k + 1)) + 1 by omega, List.getElem?_cons_succ]; exact h2, h3⟩
    · rcases List.mem_cons.1 hpm with rfl | hpm
      · exact ⟨Nat.le_refl _, by simp⟩
      · obtain ⟨h1, h2⟩ := ih.2.1 p hpm
        exact ⟨by omega, by rw [show p.1 - k = (p.1 - (k + 1)) + 1 by omega, List.getElem?_cons_succ]; exact h2⟩

structure ZL (P : Program) (n : Nat) (ops : Array Oper) (C0 : World → Prop) (K : Act → Prop) (rest : List (Nat × Oper)) (l : Env) : Prop where
  run : ∀ a, Sees n l a → wpZL P ops C0 K (rest.map (·.2)) a
structure TL (P : Program) (n : Nat) (ops : Array Oper) (C0 : World → Prop) (need : Nat → Bool) (Q : Exit → Act → World → Prop) (y : List (Nat × Oper)) (l : Env) (C : World → Prop) : Prop where
  run : ∀ a w, Sees n l a → C w → wpT P ops C0 need Q y a w
def TQ (P : Program) (ops : Array Oper) (C0 : World → Prop) (need : Nat → Bool) (k : Nat) (r : List (Nat × Oper)) (Q : Exit → Act → World → Prop) : Exit → Act → World → Prop := fun e a w => match e with
  | .normal => (need k = true → C0 w) ∧ wpT P ops C0 need Q r a w
  | e => Q e a w
def zB (ops : Array Oper) (xi yi : List Nat) : Bool := Region.noSelect ops && (preZ ops xi (Array.replicate ops.size false) && seqZ ops yi (runZ xi (Array.replicate ops.size false)))

section
variable {P : Program} {n : Nat} {l : Env} {C C0 : World → Prop} {ops : Array Oper} {Q : Exit → Act → World → Prop} {K : Act → Prop} {o : Oper} {k : Nat} {x y r : List (Nat × Oper)} {need : Nat → Bool}
theorem W.regz {id : Nat} {l0 : List Oper} (hs : ZSplit 0 [] l0 x y) (hm : P.follows .mixedOrders = true) (hB : zB l0.toArray (x.map (·.1)) (y.map (·.1)) = true) (hC : ∀ w, C w → C { w with drawn := w.drawn + 1 })
    (h : ZL P n l0.toArray C (fun a' => ∀ w', C w' → wpT P l0.toArray C (needZ l0.toArray (x.map (·.1))) (NoPanic Q) y a' w') x l) : W P n (.region id l0.toArray true) Q l C := ⟨fun a w hs' hc => by
  simp only [zB, Bool.and_eq_true] at hB
  obtain ⟨h1, h2, h3⟩ := hB
  obtain ⟨hx, hy, hlen⟩ := hs.spec
  refine wp_region_any hm (wpAny_np _ _ _ _ (wpAny_of_Z (C0 := C) (need := needZ l0.toArray (x.map (·.1))) _ _ _ _ ?_))
  have key := wpZ_pre (P := P) (ops := l0.toArray) (C0 := C) (Q := NoPanic Q) (xi0 := x.map (·.1)) (f := y.length) (w := { w with drawn := w.drawn + 1 }) h1 (fun _ _ _ h => h) (hC w hc) x (Array.replicate l0.toArray.size false) a
    (fun p hp => ⟨List.mem_map.2 ⟨p, hp, rfl⟩, by have := (hx p hp).2.1; simpa using this⟩) (fun j o _ hj => by rw [getD_rep] at hj; cases hj) h2 (h.run a hs')
    (fun a' hK => wpZ_seq y _ a' _ h3 (hK _ (hC w hc)))
  have e : x.length + y.length = l0.toArray.size := by simpa using hlen
  exact (congrArg (fun s => wpZ P l0.toArray C (needZ l0.toArray (x.map (·.1))) (NoPanic Q) s (Array.replicate l0.toArray.size false) a { w with drawn := w.drawn + 1 }) e).mp key⟩
theorem ZL.nil (h : TL P n ops C0 need Q y l C0) : ZL P n ops C0 (fun a' => ∀ w', C0 w' → wpT P ops C0 need Q y a' w') [] l := ⟨fun a hs w hc => h.run a w hs hc⟩
theorem ZL.step {d : Nat} {c : Bool} {v : Value} (hp : pureB o = true) (hg : Guard l ops o.guard c) (hd : o.dst = some d) (hn : Nat.ble (d + 1) n = true) (hv : Pev P n l (fun w => depB o = true → C0 w) o c v)
    (kk : ZL P n ops C0 K r ((d, c, v) :: l)) : ZL P n ops C0 K ((k, o) :: r) l := by
  have hn' := Nat.le_of_ble_eq_true hn
  refine ⟨fun a hs => ?_⟩
  show wpZL P ops C0 K (o :: r.map (·.2)) a
  unfold wpZL
  rw [hg.wanted hs]
  cases c with
  | true => exact ⟨v, fun w hw => still_of hp (hv.run rfl a w hs hw), by rw [hd]; exact kk.run _ (hs.put hn' true v)⟩
  | false => rw [hd]; exact kk.run _ (hs.put hn' false v)
theorem ZL.op {d : Nat} {c : Bool} {v : Value} (hb : (pureB o && !depB o) = true) (hg : Guard l ops o.guard c) (hd : o.dst = some d) (hn : Nat.ble (d + 1) n = true) (hv : Pev P n l (fun _ => True) o c v)
    (kk : ZL P n ops C0 K r ((d, c, v) :: l)) : ZL P n ops C0 K ((k, o) :: r) l := by
  simp only [Bool.and_eq_true, Bool.not_eq_true'] at hb
  exact ZL.step hb.1 hg hd hn ⟨fun hc a w hs hw => by
    have := hv.run hc a w hs trivial
    rw [still_of hb.1 this]; exact ⟨rfl, rfl⟩⟩ kk
theorem ZL.ld {d : Nat} {c : Bool} {v : Value} (hb : (pureB o && depB o) = true) (hg : Guard l ops o.guard c) (hd : o.dst = some d) (hn : Nat.ble (d + 1) n = true) (hv : Pev P n l C0 o c v)
    (kk : ZL P n ops C0 K r ((d, c, v) :: l)) : ZL P n ops C0 K ((k, o) :: r) l := by
  simp only [Bool.and_eq_true] at hb
  exact ZL.step hb.1 hg hd hn ⟨fun hc a w hs hw => by
    have := hv.run hc a w hs (hw hb.2)
    rw [still_of hb.1 this]; exact ⟨rfl, rfl⟩⟩ kk
theorem TL.nil (h : At n Q .normal l C) : TL P n ops C0 need Q [] l C := ⟨fun a w hs hc => h.run a w hs hc⟩
theorem TL.one (hi : ops[k]? = some o) (h : OL P n ops (TQ P ops C0 need k r Q) [o] l C) : TL P n ops C0 need Q ((k, o) :: r) l C := ⟨fun a w hs hc => by
  have hp : ∀ ex a w, ex ≠ .normal → TQ P ops C0 need k r Q ex a w → Q ex a w := fun ex a w hne h => by
    cases ex <;> first | exact h | exact absurd rfl hne
  have h := h.run a w hs hc
  show wpOp P ops Q k _ a w
  unfold wpOp
  simp only [hi]
  unfold wpList at h
  split
  · rename_i hw
    rw [if_pos hw] at h
    rcases h with h | ⟨h, a', w', hq⟩
    · refine .inl ?_
      unfold Oper.wp at h ⊢
      exact upon_Q hp h
    · exact .inr ⟨h, a', w', hp _ _ _ (by simp) hq⟩
  · rename_i hw
    rw [if_neg hw] at h
    exact h⟩
theorem At.tn (hk : need k = false) (h : TL P n ops C0 need Q r l C) : At n (TQ P ops C0 need k r Q) .normal l C := ⟨fun a w hs hc => ⟨fun h' => (by rw [hk] at h'; cases h'), h.run a w hs hc⟩⟩
theorem At.tk (hk : ∀ w, C w → C0 w) (h : TL P n ops C0 need Q r l C) : At n (TQ P ops C0 need k r Q) .normal l C := ⟨fun a w hs hc => ⟨fun _ => hk w hc, h.run a w hs hc⟩⟩
theorem At.np (h : At n Q .normal l C) : At n (NoPanic Q) .normal l C := ⟨h.run⟩
end

/-! a guard that is known, among the quiet operations -/
section
variable {P : Program} {n : Nat} {l : Env} {C : World → Prop} {c : Bool} {d : Option Nat} {op : Op} {ty : TypeId} {pos : String} {af : Array Edge} {g : Option (Nat × Bool)} {ops : Array Oper} {K : Act → Prop} {rest : List Oper}
theorem QL.gateOff {dd : Nat} (hg : Guard l ops g c) (hc : c = false) (hn : Nat.ble (dd + 1) n = true) (h : QL P n ops C K rest ((dd, false, undef) :: l)) : QL P n ops C K (⟨some dd, op, ty, pos, af, g⟩ :: rest) l := by
  have hn' := Nat.le_of_ble_eq_true hn
  refine ⟨fun a hs => ?_⟩
  unfold wpQuiet
  rw [hg.wanted hs]
  subst hc
  exact h.run _ (hs.put hn' false undef)
end
end Go.Eng

/- The walk of live's Pressure. Conditions: none. -/
namespace Go.Proofs.Ytehelljmaiophaa.ss
set_option maxRecDepth 100000
open Go.Eng Go.RowKit Go.Ss
set_option linter.unusedVariables false
set_option linter.unusedSimpArgs false
structure XPr (S : List World) where
  q : Option Addr
  c : Nat
  O : Nat → Prop
  B : Nat
  h : AllLe S B
  old : Nat → Value
theorem rowBoolsL {H : List Eng.Item} {S : List World} {w : World} {B m cap : Nat} {O : Nat → Prop} {q : Option Addr} {e : TypeId} {l : List Bool} (h : Cls H S w) (hr : row B O q m cap e 1 (bls l) ∈ H) : BoolsO w (low w) l q := fun hl => by
  obtain ⟨a, h1, h2, h3⟩ := SlAt.of_row (h.item hr) (by rw [bls_length]; exact hl)
  refine ⟨a, h1, ?_, h3⟩
  have h4 := h3 0 _ (List.getElem?_eq_getElem (by rw [bls_length]; exact hl))
  have := cell_lt h4
  rwa [add_block] at this
theorem Pre1_calls (b1 B c g : Nat) (O : Nat → Prop) (s : List Bool) (n : Int) (x : Nat) (X : Eng.Item) (S : List World) (w : World) (hm : s.length ≤ 1000000) (hB : AllLe S B)
    (hc : Cls [row B O (some ⟨g, 0, none⟩) s.length c 4 1 (bls s), X, blk b1 3 [.int .i64 (x : Int)]] S w) :
    Calls Try.prog 65 [.int .i64 n, .slice (some ⟨g, 0, none⟩) s.length c, .pointer (some ⟨b1, 0, none⟩)].toArray w fun e w' => e = .returned (.tuple #[]) ∧
      Cls [row B O (some ⟨g, 0, none⟩) s.length c 4 1 (bls s), X, blk b1 3 [.int .i64 ((max x (onK s s.length).length : Nat) : Int)]] S w' := by
  refine enter Try.func65 rfl Try.ntmps65 rfl hc ?_
  (simp only [argEnv, Nat.zero_add, Nat.reduceAdd])
  skip
  refine W.regany (X := XPr S) (fun z e => [(9, true, bif e 4 then .int .i64 ((max x (onK s s.length).length : Nat) : Int) else z.old 9), (8, true, bif e 3 then .int .i64 ((onK s s.length).length : Int) else z.old 8), (7, true, bif e 2 then .slice z.q (onK s s.length).length z.c else z.old 7), (6, true, bif e 1 then .slice (some ⟨g, 0, none⟩) s.length c else z.old 6), (5, true, bif e 0 then .int .i64 (x : Int) else z.old 5), (1, true, .slice (some ⟨g, 0, none⟩) s.length c), (2, true, .pointer (some ⟨b1, 0, none⟩))])
    (fun z e => (row B O (some ⟨g, 0, none⟩) s.length c 4 1 (bls s)) :: (X) :: (blk b1 3 [.int .i64 (bif e 5 then ((max x (onK s s.length).length : Nat) : Int) else (x : Int))]) :: (bif e 2 then row z.B z.O z.q (onK s s.length).length z.c 3 1 (ints (onK s s.length)) else nothing) :: [])
    (fun old => ⟨none, 0, fun _ => False, B, hB, old⟩) (by kernel_rfl) (by kernel_rfl) (fun w hw => hw.drew) (fun old => by repeat (first | exact SubO.nil | apply SubO.cons rfl | refine SubO.old rfl ?_)) (fun old w' hw' => hw'.add_nothing) ?_ ?_
  · intro z e i o ho hei hd hcl
    have hi : i < 6 := (List.getElem?_eq_some_iff.1 ho).1
    obtain rfl | rfl | rfl | rfl | rfl | rfl : i = 0 ∨ i = 1 ∨ i = 2 ∨ i = 3 ∨ i = 4 ∨ i = 5 := by omega
    · cases ho
      have h5 : e 5 = false := hcl.not (i := 0) (j := 5) rfl hei (by kernel_rfl)
      have v0 : Eng.upd e 0 0 = true := upd_eq
      have v5 : Eng.upd e 0 5 = false := h5
      simp only [hei, h5, cond_true, cond_false]
      apply old; rfl; rfl; exact .tail _ (.tail _ (.head _)); rfl; rfl
      apply OL.nil
      exact At.beside z (by repeat (first | exact Sub.nil | apply Sub.cons rfl | refine Sub.cons_eq rfl (by simp only [v0, v5, cond_true, cond_false]) ?_)) (fun w' hw' => by first | exact hw' | (simp only [v0, v5, cond_true, cond_false]; exact hw'))
    · cases ho
      have v1 : Eng.upd e 1 1 = true := upd_eq
      simp only [hei, cond_true, cond_false]
      apply omv; rfl; rfl
      apply OL.nil
      exact At.beside z (by repeat (first | exact Sub.nil | apply Sub.cons rfl | refine Sub.cons_eq rfl (by simp only [v1, cond_true, cond_false]) ?_)) (fun w' hw' => by first | exact hw' | (simp only [v1, cond_true, cond_false]; exact hw'))
    · cases ho
      have h1 : e 1 = true := hd ⟨1, .data⟩ (by simp) rfl
      have h3 : e 3 = false := hcl.not (i := 2) (j := 3) rfl hei (by kernel_rfl)
      have h5 : e 5 = false := hcl.not (i := 2) (j := 5) rfl hei (by kernel_rfl)
      have v2 : Eng.upd e 2 2 = true := upd_eq
      have v1 : Eng.upd e 2 1 = true := upd_mono h1
      have v3 : Eng.upd e 2 3 = false := h3
      have v5 : Eng.upd e 2 5 = false := h5
      simp only [hei, h1, h3, h5, cond_true, cond_false]
      refine OL.callE (α := ((Nat → Prop) × Option Addr × Nat) × Nat) (fun z => .slice z.1.2.1 (onK s s.length).length z.1.2.2) (fun z => AllLe S z.2) (fun z => Cls [row z.2 z.1.1 z.1.2.1 (onK s s.length).length z.1.2.2 3 1 (ints (onK s s.length)), row B O (some ⟨g, 0, none⟩) s.length c 4 1 (bls s), X, blk b1 3 [.int .i64 (x : Int)], nothing] S) rfl rfl (by exact Args.au) (fun w2 hw2 => (list_calls _ c s w2 (rowBoolsL hw2 (.head _)) hm).mono fun e w3 ⟨O', q', c', h1, h2⟩ => ⟨((O', q', c'), w2.heap.size), h1, AllLe.mk hw2, hw2.plusD h2 (.head _) (fun k hk => hk.1)⟩) ?_
      rintro ⟨⟨On, qn, cn⟩, Bn⟩ hBn
      simp only at hBn ⊢
      apply OL.nil
      exact At.beside { z with q := qn, c := cn, O := On, B := Bn, h := hBn } (by repeat (first | exact Sub.nil | apply Sub.cons rfl | refine Sub.cons_eq rfl (by simp only [v2, v1, v3, v5, cond_true, cond_false]) ?_)) (fun w' hw' => by simp only [v2, v1, v3, v5, cond_true, cond_false]; exact Cls.fill (p := 3) (H := _ :: _ :: _ :: _ :: []) (.s (.s (.s .z))) hw')
    · cases ho
      have h2 : e 2 = true := hd ⟨2, .data⟩ (by simp) rfl
      have v3 : Eng.upd e 3 3 = true := upd_eq
      have v2 : Eng.upd e 3 2 = true := upd_mono h2
      simp only [hei, h2, cond_true, cond_false]
      apply oop; rfl; apply Pev.len_slice; rfl; exact yes; rfl
      apply OL.nil
      exact At.beside z (by repeat (first | exact Sub.nil | apply Sub.cons rfl | refine Sub.cons_eq rfl (by simp only [v3, v2, cond_true, cond_false]) ?_)) (fun w' hw' => by first | exact hw' | (simp only [v3, v2, cond_true, cond_false]; exact hw'))
    · cases ho
      have h0 : e 0 = true := hd ⟨0, .data⟩ (by simp) rfl
      have h3 : e 3 = true := hd ⟨3, .data⟩ (by simp) rfl
      have v4 : Eng.upd e 4 4 = true := upd_eq
      have v0 : Eng.upd e 4 0 = true := upd_mono h0
      have v3 : Eng.upd e 4 3 = true := upd_mono h3
      simp only [hei, h0, h3, cond_true, cond_false]
      apply oop; rfl; apply Pev.max2; rfl; exact yes; rfl; exact yes
      apply OL.nil
      rw [show (if (x : Int) < ((onK s s.length).length : Int) then ((onK s s.length).length : Int) else (x : Int)) = ((max x (onK s s.length).length : Nat) : Int) by split <;> omega]
      exact At.beside z (by repeat (first | exact Sub.nil | apply Sub.cons rfl | refine Sub.cons_eq rfl (by simp only [v4, v0, v3, cond_true, cond_false]) ?_)) (fun w' hw' => by first | exact hw' | (simp only [v4, v0, v3, cond_true, cond_false]; exact hw'))
    · cases ho
      have h4 : e 4 = true := hd ⟨4, .data⟩ (by simp) rfl
      have v5 : Eng.upd e 5 5 = true := upd_eq
      have v4 : Eng.upd e 5 4 = true := upd_mono h4
      simp only [hei, h4, cond_true, cond_false]
      apply OL.storeB; rfl; rfl; exact CellsL.one rfl; rfl; rfl; rfl; exact Swap.au; exact Put.au
      apply OL.nil
      exact At.beside z (by repeat (first | exact Sub.nil | apply Sub.cons rfl | refine Sub.cons_eq rfl (by simp only [v5, v4, cond_true, cond_false]) ?_)) (fun w' hw' => by first | exact hw' | (simp only [v5, v4, cond_true, cond_false]; exact hw'))
  · intro z e hall
    simp only [hall 0 (by decide), hall 1 (by decide), hall 2 (by decide), hall 3 (by decide), hall 4 (by decide), hall 5 (by decide), cond_true, cond_false]
    have hz := z.h
    skip
    exact At.end_ (At.fin0 rfl (fun w' hw' => ⟨rfl, hw'.thin (.keep (.keep (.keep (.any (fun k hk => AllLe.of fun s hs => Nat.le_trans (hz.mem s hs) hk.1) Thin.nil))))⟩))
theorem Pressure_calls (fn : Go.Ss.Fn) (y : FnY) (w : World) (hfn : FnOk w (low w) fn y) :
    Calls Try.prog 16 [.agg (fnC fn y).toArray].toArray w fun e w' => Ext w w' ∧ ((funcE fn ≠ 0 ∧ e = .returned (.tuple #[.int .i64 0, .int .i64 (funcE fn)])) ∨
      (funcE fn = 0 ∧ ∃ x : Nat, e = .returned (.tuple #[.int .i64 (x : Int), .int .i64 0]) ∧ Most fn.blocks ((freshF fn.blocks).toNat + 1) x)) := by
  obtain ⟨er, her⟩ : ∃ er, funcE fn = er := ⟨_, rfl⟩
  rw [her]
  have hfn0 := hfn
  refine enter Try.func16 rfl Try.ntmps16 rfl (Cls.start w) ?_
  (simp only [argEnv, Nat.zero_add, Nat.reduceAdd])
  obtain ⟨es, hes, he⟩ := hfn.b
  obtain ⟨nm, bs⟩ := fn
  obtain ⟨q, cap⟩ := y
  simp only at hes he
  have hbl2 : es.length = bs.length := by rw [← hes, List.length_map]
  simp only [fnC]
  have hF : ∀ (H : List Eng.Item) (S : List World) (w2 : World), Cls H S w2 → w ∈ S → (∀ k, k < w.heap.size → NotOwned H k) → FnOk w2 (low w2) ⟨nm, bs⟩ ⟨q, cap⟩ := fun H S w2 hw2 hs hno => fnR.mono (hw2.up hs) (fnR.stab (hw2.same hs hno) hfn0)
  have hBu := fun w2 (H : List Eng.Item) (S : List World) hw2 hs hno => build_calls ⟨nm, bs⟩ ⟨q, cap⟩ w2 (hF H S w2 hw2 hs hno)
  simp only [fnC, her] at hBu
  apply W.sr
  apply OL.box; rfl; rfl; exact CellsL.agg; (intro bk hbk; simp only [AllLe, and_true] at hbk)
  apply oas; rfl; rfl
  apply oas; rfl; rfl
  apply OL.nsr
  apply oop; rfl; apply Pev.load_blkA; rfl; exact yes; exact .head _; rfl; exact Take.au
  revert bk
  intro b3 hb3x
  have hb3 : w.heap.size ≤ b3 := by first | exact hb3x | exact hb3x.1
  refine OL.frz (C' := fun w0 => Cls [] [w0, w]) (fun w0 hc0 => (hc0.thin (.any (fun k hk => by rw [show k = b3 from hk]; exact ⟨hb3, trivial⟩) Thin.nil)).note) (fun w0 hc0 => ?_)
  have hw0 : w.heap.size ≤ w0.heap.size := (hc0.kp w (.head _)).size
  have hi3 := hc0.item (i := blk b3 24 [.int .i64 nm, .slice q bs.length cap]) (by exact mau)
  have hb30 := blk_lt hi3
  have hc3 : CellsAt w0 ⟨b3, 0, none⟩ [.int .i64 nm, .slice q bs.length cap] := fun j v hj => by rw [add_mid, blk_cell hi3, Nat.zero_add]; exact hj
  have hc31 : w0.cell? ⟨b3, 0 + 1, none⟩ = some (.slice q bs.length cap) := hc3 1 _ rfl
  skip
  by_cases hne : er ≠ 0
  · (((first | (with_reducible apply OL.op) | (with_reducible apply QL.op)); (exact Guard.au); rfl; rfl); (exact Pev.call (v := .tuple #[.pointer none, .slice none 0 0, .int .i64 er]) rfl (by exact Args.au) (fun _ w2 hw2 => (hBu w2 _ _ hw2 (by exact mau) (fun k hk => NotOwned.nil)).mono (fun e w3 h => ⟨by rcases h.2 with h2 | h2; exact h2.2; exact absurd h2.1 hne, hw2.ext h.1⟩))))
    apply omv; rfl; rfl
    apply oex; rfl; rfl; rfl
    apply oex; rfl; rfl; rfl
    apply oex; rfl; rfl; rfl
    apply oas; rfl; rfl
    apply oas; rfl; rfl
    apply oas; rfl; rfl
    apply OL.nx
    apply W.seq
    apply W.sr
    apply omv; rfl; rfl
    apply obn; rfl; rfl; rfl; apply Bin.neq
    apply OL.nx
    refine W.cond rfl (fun _ => ?_) (fun h => by simp at h; exact absurd h hne)
    apply W.sr
    apply omv; rfl; rfl
    apply oas; rfl; rfl
    apply oas; rfl; rfl
    apply OL.nx
    refine W.rt ?_
    ((with_reducible apply At.fin2); rfl; rfl; rfl; intro w' hw')
    exact ⟨hw'.fr (by exact mau) (fun k hk => NotOwned.nil), .inl ⟨hne, rfl⟩⟩
  have he0 : er = 0 := Classical.not_not.1 hne
  subst he0
  obtain ⟨h0, h128, hs0⟩ := func_zero her
  simp only at h0 h128 hs0
  obtain ⟨m, hm⟩ : ∃ m, (freshF bs).toNat + 1 = m := ⟨_, rfl⟩
  obtain ⟨hfr0, hfr1, hfrd⟩ := fresh_bounds hs0
  have hbd := bnd_of her (m := m) (by omega)
  simp only [hm] at hBu ⊢
  have hm0 : 0 < m := by omega
  have hm1 : m ≤ 1000000 := by omega
  refine OL.callE (α := (Nat × Nat × Nat × List (List Bool × Sc) × List (List Bool × Sc)) × World) (fun z => .tuple #[.pointer (some ⟨z.1.1, 0, none⟩), .slice (some ⟨z.1.2.2.1, 0, none⟩) bs.length bs.length, .int .i64 0]) (fun z => Ext w z.2 ∧ Ext w0 z.2 ∧ Built z.2 ⟨nm, bs⟩ ⟨q, cap⟩ m z.1.1 z.1.2.1 z.1.2.2.1 z.1.2.2.2.1 z.1.2.2.2.2) (fun z => Cls [] [z.2, w0, w]) rfl rfl (by exact Args.au) (fun w2 hw2 => (hBu w2 _ _ hw2 (by exact mau) (fun k hk => NotOwned.nil)).mono fun e w3 ⟨h2, h3⟩ => ?_) ?_
  · rcases h3 with ⟨h3, _⟩ | ⟨_, bL, bB, bF, B, F, h4, h5⟩
    · exact absurd rfl h3
    · have hx := hw2.ext h2
      exact ⟨((bL, bB, bF, B, F), w3), h4, ⟨hx.toExt (by exact mau) (fun k hk => NotOwned.nil), hx.toExt (by exact mau) (fun k hk => NotOwned.nil), h5⟩, hx.note⟩
  rintro ⟨⟨bL, bB, bF, B, F⟩, wB⟩ ⟨hxB, hx0B, hbu⟩
  simp only at hxB hx0B hbu ⊢
  have hw0B := hx0B.size
  have hwB := hxB.size
  have heB := he.ext hxB
  have hBl : B.length = bs.length := by have := hbu.st.bl; simpa using this
  have hSSB : ∀ s ∈ [wB, w0, w], s.heap.size ≤ wB.heap.size := fun s hs => by
    simp only [List.mem_cons, List.not_mem_nil, or_false] at hs
    rcases hs with rfl | rfl | rfl
    · exact Nat.le_refl _
    · exact hw0B
    · exact hwB
  have hLim : ∀ x, wB.heap.size ≤ x → AllLe [wB, w0, w] x := fun x hx => ⟨hx, Nat.le_trans hw0B hx, Nat.le_trans hwB hx, trivial⟩
  have hLife := hbu.life
  simp only [← hbl2] at hLife
  apply omv; rfl; rfl
  apply oex; rfl; rfl; rfl
  apply oex; rfl; rfl; rfl
  apply oex; rfl; rfl; rfl
  apply oas; rfl; rfl
  apply oas; rfl; rfl
  apply oas; rfl; rfl
  apply OL.nx
  apply W.seq
  apply W.sr
  apply omv; rfl; rfl
  apply obn; rfl; rfl; rfl; apply Bin.neq
  apply OL.nx
  refine W.cond rfl (fun h => by simp at h) (fun _ => ?_)
  apply W.sk
  apply W.sr
  apply OL.alloc; rfl; rfl; exact CellsL.one rfl; (intro bk hbk; simp only [AllLe, and_true] at hbk)
  apply OL.storeB; rfl; rfl; exact CellsL.one rfl; rfl; rfl; rfl; exact Swap.au; exact Put.au
  apply OL.nx
  apply W.seq
  apply W.sr
  apply ofa; rfl; rfl; rfl
  apply oop; rfl; apply Pev.load_kept; rfl; exact yes; exact .tail _ (.head _); rfl; intro hcond; assumption; intro hcond; assumption; intro hcond; exact NotOwned.au
  apply oop; rfl; apply Pev.len_slice; rfl; exact yes; rfl
  apply omv; rfl; rfl
  apply OL.nx
  apply W.block
  revert bk
  intro b11 hb11
  have hb11B : wB.heap.size ≤ b11 := hb11.1
  refine W.loop (G := Nat × Nat) (fun z => z.1 ≤ bs.length ∧ (∀ (k : Nat) (b : Bk) (n : Nat), k < z.1 → bs[k]? = some b → n ≤ b.ins.length → (liveL bs m k n).length ≤ z.2) ∧ (z.2 = 0 ∨ ∃ (k : Nat) (b : Bk) (n : Nat), bs[k]? = some b ∧ n ≤ b.ins.length ∧ z.2 = (liveL bs m k n).length)) (fun z => bs.length - z.1)
    (fun z => [(4, true, .pointer (some ⟨bL, 0, none⟩)), (7, true, .pointer (some ⟨b11, 0, none⟩)), (20, true, .int .i64 (bs.length : Int)), (21, true, .int .i64 (z.1 : Int))])
    (fun z => Cls [blk b11 3 [.int .i64 (z.2 : Int)]] [wB, w0, w])
    (0, 0) ⟨by simp, fun k b n h => by simp at h, .inl rfl⟩ (by exact Sub.au) (fun w' hw' => hw') ?_
  rintro ⟨k, x0⟩ ⟨hk, hx1, hx2⟩
  simp only at hk hx1 hx2 ⊢
  apply W.sr
  apply obn; rfl; rfl; rfl; apply Bin.lss
  apply OL.nx
  apply W.seq
  (refine W.cnd (fun hlt => ?_) (fun hlt => ?_)) <;> (try (exfalso; first | omega | exact hlt trivial | contradiction))
  · have hkl : k < es.length := by omega
    obtain ⟨b, hkb⟩ : ∃ b, bs[k]? = some b := ⟨_, List.getElem?_eq_getElem (by omega)⟩
    have hgb : bs.getD k noB = b := by rw [List.getD_eq_getElem?_getD, hkb]; rfl
    obtain ⟨pB, hpB⟩ : ∃ p, B[k]? = some p := ⟨_, List.getElem?_eq_getElem (by omega)⟩
    obtain ⟨hpBl, hpBo⟩ := hbu.bo pB (List.mem_of_getElem? hpB)
    have hon : ∀ (n : Nat), n ≤ b.ins.length → onK (backS (b.ins.drop n) pB.1) m = liveL bs m k n := fun n hn => onK_live (by rw [backS_length, hpBl]) fun v => hbu.live hbd hkb hpB hn v
    have hBk := back_calls wB es q cap nm bL bB m k B pB heB hkl (by rw [hes]; exact hbd) hm1 hm0 hLife hbu.b hpB hpBl hpBo [wB, w0, w] (.head _) hSSB (fun x : Nat => [blk b11 3 [.int .i64 (x : Int)]])
      (fun n' x => x0 ≤ x ∧ (∀ j, n' ≤ j → j ≤ b.ins.length → (liveL bs m k j).length ≤ x) ∧ (x = x0 ∨ ∃ j, n' ≤ j ∧ j ≤ b.ins.length ∧ x = (liveL bs m k j).length)) x0 65 [] [.pointer (some ⟨b11, 0, none⟩)] rfl
    simp only [hes, hgb] at hBk
    have hBk2 := hBk ⟨Nat.le_refl _, fun j h1 h2 => by omega, .inl (by trivial)⟩ (fun x k hk => NotOwned.blk (by omega) NotOwned.nil) (fun n x B' O' g' c' X w' hn hx hB' hX hw' => by
      have hl : (backS (b.ins.drop n) pB.1).length = m := by rw [backS_length, hpBl]
      have hol := hon n hn
      rw [← hl] at hw' hol ⊢
      refine (Pre1_calls b11 B' c' g' O' _ n x X [wB, w0, w] w' (by rw [hl]; exact hm1) hB' hw').mono fun e w'' ⟨h1, h2⟩ => ⟨_, h1, ?_, h2⟩
      rw [hol, hl]
      obtain ⟨h3, h4, h5⟩ := hx
      refine ⟨by omega, fun j h6 h7 => ?_, ?_⟩
      · by_cases e : j = n
        · subst e; omega
        · have := h4 j (by omega) h7
          omega
      · rcases Nat.le_total x (liveL bs m k n).length with h6 | h6
        · exact .inr ⟨n, Nat.le_refl _, hn, Nat.max_eq_right h6⟩
        · rw [Nat.max_eq_left h6]
          exact h5.imp id fun ⟨j, h7, h8⟩ => ⟨j, by omega, h8⟩)
    apply W.sk
    apply W.sb
    apply W.sr
    apply omv; rfl; rfl
    apply oas; rfl; rfl
    apply OL.nx
    apply W.reg
    apply omv; rfl; rfl
    apply omv; rfl; rfl
    apply oop; rfl; apply Pev.makeFunc; exact Args.au; exact Args.au
    refine OL.callE (α := Value × Nat) (fun z => z.1) (fun z => x0 ≤ z.2 ∧ (∀ j, 0 ≤ j → j ≤ b.ins.length → (liveL bs m k j).length ≤ z.2) ∧ (z.2 = x0 ∨ ∃ j, 0 ≤ j ∧ j ≤ b.ins.length ∧ z.2 = (liveL bs m k j).length)) (fun z => Cls [blk b11 3 [.int .i64 (z.2 : Int)]] [wB, w0, w]) rfl rfl (by exact Args.au) (fun w2 hw2 => (hBk2 w2 hw2).mono fun e w3 ⟨vv, x', h1, h2, h3⟩ => ⟨(vv, x'), h1, h2, h3⟩) ?_
    rintro ⟨vv, x'⟩ ⟨hx3, hx4, hx5⟩
    simp only at hx3 hx4 hx5 ⊢
    apply OL.nil
    with_reducible apply At.in_normal
    with_reducible apply At.next
    apply W.reg
    apply obn; rfl; rfl; rfl; apply Bin.add_in; omega
    apply omv; rfl; rfl
    apply OL.nil
    refine At.again (k + 1, x') ⟨by simp only; omega, fun k' b' n' h1 h2 h3 => ?_, ?_⟩ (by simp only; omega) (by exact Sub.au) (fun w' hw' => hw')
    · simp only at h1 ⊢
      by_cases e : k' = k
      · subst e
        rw [hkb] at h2
        obtain rfl := Option.some.inj h2
        exact hx4 n' (Nat.zero_le _) h3
      · have := hx1 k' b' n' (by omega) h2 h3
        omega
    · simp only
      rcases hx5 with rfl | ⟨j, _, h1, h2⟩
      · exact hx2
      · exact .inr ⟨k, b, j, hkb, h1, h2⟩
  · obtain rfl : k = bs.length := by omega
    refine W.xt ?_
    with_reducible apply At.next
    apply W.sr
    apply old; rfl; rfl; exact .head _; rfl; rfl
    apply oas; rfl; rfl
    apply oas; rfl; rfl
    apply OL.nx
    apply W.ret
    ((with_reducible apply At.fin2); rfl; rfl; rfl; intro w' hw')
    exact ⟨hw'.toExt (by exact mau) (fun k hk => NotOwned.blk (by omega) NotOwned.nil), .inr ⟨by trivial, x0, rfl, fun k b n h1 h2 => hx1 k b n (List.getElem?_eq_some_iff.1 h1).1 h1 h2, hx2⟩⟩
end Go.Proofs.Ytehelljmaiophaa.ss

/-
  DERIVED: THE SHELF's CONTRACTS AT THIS DUMP, IN PLAIN WORDS (tools/lay-plain.mjs out of 'YtehelljmaiophaaShelfD.lean', which tools/lay-shelf.mjs wrote): THE SAME DECLARATIONS UNDER THE SAME NAMES: 'import', 'namespace', 'open', 'def', 'theorem' AND NOTHING ELSE: no command of the shelf's: FOR A HAND-IN. Each laying: the table of numbers ('.._ren') and one theorem, a field a fact of the dump's own or the kernel's comparison; each contract: ONE APPLICATION.
-/
namespace Go.Proofs
open Go.Shelf
set_option linter.unusedVariables false
def Try.growR_ren : Go.Shelf.Ren := ⟨fun | 4 => 105 | n => n, fun | 22 => 30 | 25 => 44 | 3 => 3 | 4 => 4 | 9 => 9 | 20 => 20 | 0 => 0 | n => n, fun | n => n⟩
theorem Try.growR : Go.Proofs.Lays8.n4 Try.prog Try.growR_ren := {
  mixed := by kernel_rfl
  f4 := ⟨Try.f105.name, by decide, Try.func105.trans (congrArg some (by kernel_rfl))⟩
  t0 := Try.underlying0
  a0 := Try.isAgg0
  z0 := Try.sizeOf0
  v0 := Try.zeroValue0
  t3 := Try.underlying3
  a3 := Try.isAgg3
  z3 := Try.sizeOf3
  v3 := Try.zeroValue3
  t4 := Try.underlying4
  a4 := Try.isAgg4
  z4 := Try.sizeOf4
  v4 := Try.zeroValue4
  t9 := Try.underlying9
  a9 := Try.isAgg9
  z9 := Try.sizeOf9
  v9 := Try.zeroValue9
  t20 := Try.underlying20
  a20 := Try.isAgg20
  z20 := Try.sizeOf20
  v20 := Try.zeroValue20
  t22 := Try.underlying30
  a22 := Try.isAgg30
  z22 := Try.sizeOf30
  v22 := Try.zeroValue30 }
end Go.Proofs

/- The walk of slices.Concat at ranges. Conditions: none. -/
namespace Go.Ss
open Go.Eng Go.RowKit
set_option linter.unusedVariables false
set_option linter.unusedSimpArgs false
def cntR (L : List Rw) : Nat := (L.map Rw.m).sum
theorem cntR_take (L : List Rw) (k : Nat) {r : Rw} (h : L[k]? = some r) : cntR (L.take (k + 1)) = cntR (L.take k) + r.m := by
  unfold cntR
  rw [List.take_add_one, h, Option.toList_some, List.map_append, List.sum_append]
  simp
theorem cntR_le : ∀ (L : List Rw) (k : Nat), cntR (L.take k) ≤ cntR L
  | [], k => by simp [cntR]
  | r :: L, 0 => by simp [cntR]
  | r :: L, k + 1 => by
    have := cntR_le L k
    simp only [cntR, List.take_succ_cons, List.map_cons, List.sum_cons] at this ⊢
    omega
theorem madeZ (z : Array Value) (n : Nat) : (Builtin.zeroCells z n).size = n * z.size := by simp [Builtin.zeroCells]
end Go.Ss
namespace Go.Proofs.Ytehelljmaiophaa.ss
set_option maxRecDepth 100000
open Go.Eng Go.RowKit Go.Ss
set_option linter.unusedVariables false
set_option linter.unusedSimpArgs false
theorem Grow_calls (n : Nat) (w w2 : World) (hw2 : Cls [] [w] w2) (hn : n ≤ 1000000000) :
    Calls Try.prog 105 [.slice none 0 0, .int .i64 (n : Int)].toArray w2 fun e w' => ∃ O q c, e = .returned (.slice q 0 c) ∧ Cls [row w.heap.size O q 0 c 44 4 []] [w] w' := by
  by_cases h0 : n = 0
  · rw [h0]
    refine (Any8.slices_Grow_room Try.growR none 0 0 0 w2 (by omega) (by omega) (by omega) (by omega)).mono fun e w' ⟨h1, h2⟩ => ⟨fun _ => False, none, 0, h1, ?_⟩
    rw [h2]
    exact hw2.row_nil w.heap.size 44 4
  · obtain ⟨i0, hi, hz0, hz1, hz2⟩ := info_parts (P := Try.prog) (e := 44) (z := .agg #[.int .i64 0, .int .i64 0, .int .i64 0, .int .i64 0]) (size := 4) (bytes := 32) rfl
    refine (Any8.slices_Grow_grow Try.growR i0 _ hi hz0 (by omega) none 0 0 n [] w2 (by omega) (by omega) (by rw [hz2]; omega) (by omega) (by simp) (fun _ => rfl) (fun a ha => by cases ha)).mono fun e w' ⟨h1, h2⟩ => ?_
    have hG1 := grownCap_ge w2 (0 + n) 0 (Try.growR_ren.t 25)
    have hG2 : grownCap w2 (0 + n) 0 (Try.growR_ren.t 25) ≤ maxLen := grownCap_le_maxLen w2 _ _ _ (by simp only [maxLen]; omega)
    generalize grownCap w2 (0 + n) 0 (Try.growR_ren.t 25) = G at *
    have hcs : (([] : List Value).toArray ++ Builtin.zeroCells (Value.agg #[.int .i64 0, .int .i64 0, .int .i64 0, .int .i64 0]).cells (0 + n - 0) ++ Builtin.zeroCells (Value.agg #[.int .i64 0, .int .i64 0, .int .i64 0, .int .i64 0]).cells (G - (0 + n))).size = G * 4 := by
      have hz4 : (Value.agg #[.int .i64 0, .int .i64 0, .int .i64 0, .int .i64 0]).cells.size = 4 := rfl
      rw [Array.size_append, Array.size_append, madeZ, madeZ, hz4, List.size_toArray, List.length_nil]
      omega
    generalize (([] : List Value).toArray ++ Builtin.zeroCells (Value.agg #[.int .i64 0, .int .i64 0, .int .i64 0, .int .i64 0]).cells (0 + n - 0) ++ Builtin.zeroCells (Value.agg #[.int .i64 0, .int .i64 0, .int .i64 0, .int .i64 0]).cells (G - (0 + n))) = cs at *
    have hh : w'.heap[w2.heap.size]? = some (.cells cs 44 (0, 0)) := by rw [h2]; exact heap_alloc_new w2.drew _
    have hx : Ext w2 w' := by
      rw [h2]
      exact Keep.trans (b := w2.drew) ⟨rfl, rfl, rfl, Nat.le_refl _, fun _ _ _ => rfl⟩ (ext_alloc _ _)
    refine ⟨fun k => k = w2.heap.size, some ⟨w2.heap.size, 0, none⟩, G, h1, ?_⟩
    refine hw2.add hx _ ⟨fun a ha => by cases ha; rfl, by simp, .inr ⟨w2.heap.size, G, cs, rfl, (hw2.kp w (.head _)).size, hh, Nat.zero_le _, hG2, hcs, by simp⟩⟩ (fun k hk => ?_)
    have hk2 : k = w2.heap.size := hk.2
    rw [hk2]
    exact ⟨Nat.le_refl _, (Array.getElem?_eq_some_iff.1 hh).1⟩
theorem Concat_calls (bP : Nat) (L : List Rw) (w : World) (hb : (blk bP 30 (L.map slC)).holds w) (hL : ∀ r ∈ L, SlAt w w.heap.size r.q r.xs ∧ r.xs.length = r.m * 4 ∧ oneL r.xs = true) (hl : L.length ≤ 1000000) (ht : cntR L ≤ 1000000000) :
    Calls Try.prog 64 [.slice (some ⟨bP, 0, none⟩) L.length L.length].toArray w fun e w' => ∃ O q c, e = .returned (.slice q (cntR L) c) ∧ Cls [row w.heap.size O q (cntR L) c 44 4 (L.flatMap Rw.xs)] [w] w' := by
  have hbP := blk_lt hb
  refine enter Try.func64 rfl Try.ntmps64 rfl (Cls.start w) ?_
  (simp only [argEnv, Nat.zero_add, Nat.reduceAdd])
  apply W.sr
  apply oas; rfl; rfl
  apply OL.nsr
  apply oas; rfl; rfl
  apply OL.nx
  apply W.seq
  apply W.sr
  apply omv; rfl; rfl
  apply oop; rfl; apply Pev.len_slice; rfl; exact yes; rfl
  apply omv; rfl; rfl
  apply OL.nx
  apply W.block
  refine W.loop (G := Nat) (fun k => k ≤ L.length) (fun k => L.length - k)
    (fun k => [(0, true, .slice (some ⟨bP, 0, none⟩) L.length L.length), (3, true, .int .i64 (cntR (L.take k) : Int)), (9, true, .slice (some ⟨bP, 0, none⟩) L.length L.length), (10, true, .int .i64 (L.length : Int)), (11, true, .int .i64 (k : Int))])
    (fun _ => Cls [] [w]) 0 (by omega) (by exact Sub.au) (fun w' hw' => hw') ?_
  rintro k hk
  apply W.sr
  apply obn; rfl; rfl; rfl; apply Bin.lss
  apply OL.nx
  apply W.seq
  (refine W.cnd (fun hlt => ?_) (fun hlt => ?_)) <;> (try (exfalso; first | omega | exact hlt trivial | contradiction))
  · have hkl : k < L.length := by omega
    obtain ⟨r, hr⟩ : ∃ r, L[k]? = some r := ⟨_, List.getElem?_eq_getElem hkl⟩
    have hc : w.cell? ⟨bP, 0 + (k : Int).toNat * 1, none⟩ = some (.slice r.q r.m r.cap) := by
      rw [blk_cell hb, show 0 + (k : Int).toNat * 1 = k by omega, List.getElem?_map, hr]; rfl
    have h1 := cntR_take L k hr
    have h2 := cntR_le L (k + 1)
    apply W.sk
    apply W.sb
    apply W.sr
    apply oop; rfl; apply Pev.idxB; rfl; exact yes; rfl; exact yes; rfl; intro hcond; omega; rfl
    apply oop; rfl; apply Pev.load_kept; rfl; exact yes; exact .head _; rfl; intro hcond; assumption; intro hcond; assumption; intro hcond; exact NotOwned.au
    apply oas; rfl; rfl
    apply OL.nsr
    apply omv; rfl; rfl
    apply omv; rfl; rfl
    apply oop; rfl; apply Pev.len_slice; rfl; exact yes; rfl
    apply obn; rfl; rfl; rfl; apply Bin.add_in; omega
    apply oas; rfl; rfl
    apply OL.nsr
    apply omv; rfl; rfl
    apply obn; rfl; rfl; rfl; apply Bin.lss
    apply OL.nx
    refine W.cond rfl (fun h => by simp at h; omega) (fun _ => ?_)
    apply W.skip
    with_reducible apply At.in_normal
    with_reducible apply At.next
    apply W.reg
    apply obn; rfl; rfl; rfl; apply Bin.add_in; omega
    apply omv; rfl; rfl
    apply OL.nil
    exact At.again (k + 1) (by omega) (by omega) (by rw [h1]; exact Sub.au) (fun w' hw' => hw')
  obtain rfl : k = L.length := by omega
  rw [List.take_length]
  have hGrow := fun w2 (hw2 : Cls [] [w] w2) => Grow_calls (cntR L) w w2 hw2 ht
  refine W.xt ?_
  with_reducible apply At.next
  apply W.sr
  apply omv; rfl; rfl
  refine OL.callE (α := GR) (fun z => .slice z.q 0 z.c) (fun _ => True) (fun z => Cls [row w.heap.size z.O z.q 0 z.c 44 4 []] [w]) rfl rfl (by exact Args.au) (fun w2 hw2 => (hGrow w2 hw2).mono fun e w3 ⟨O, q, c, h1, h2⟩ => ⟨⟨O, q, c⟩, h1, trivial, h2⟩) ?_
  rintro ⟨O1, q1, c1⟩ _
  simp only
  apply oas; rfl; rfl
  apply OL.nx
  apply W.seq
  apply W.sr
  apply omv; rfl; rfl
  apply oop; rfl; apply Pev.len_slice; rfl; exact yes; rfl
  apply omv; rfl; rfl
  apply OL.nx
  apply W.block
  refine W.loop (G := Nat × GR) (fun g => g.1 ≤ L.length) (fun g => L.length - g.1)
    (fun g => [(6, true, .slice g.2.q (cntR (L.take g.1)) g.2.c), (25, true, .slice (some ⟨bP, 0, none⟩) L.length L.length), (26, true, .int .i64 (L.length : Int)), (27, true, .int .i64 (g.1 : Int))])
    (fun g => Cls [row w.heap.size g.2.O g.2.q (cntR (L.take g.1)) g.2.c 44 4 ((L.take g.1).flatMap Rw.xs)] [w]) (0, ⟨O1, q1, c1⟩) (by simp) (by exact Sub.au) (fun w' hw' => by simpa [cntR] using hw') ?_
  rintro ⟨k, ⟨O2, q2, c2⟩⟩ hk
  simp only at hk ⊢
  apply W.sr
  apply obn; rfl; rfl; rfl; apply Bin.lss
  apply OL.nx
  apply W.seq
  (refine W.cnd (fun hlt2 => ?_) (fun hlt2 => ?_)) <;> (try (exfalso; first | omega | exact hlt2 trivial | contradiction))
  · have hkl : k < L.length := by omega
    obtain ⟨r, hr⟩ : ∃ r, L[k]? = some r := ⟨_, List.getElem?_eq_getElem hkl⟩
    have hc : w.cell? ⟨bP, 0 + (k : Int).toNat * 1, none⟩ = some (.slice r.q r.m r.cap) := by
      rw [blk_cell hb, show 0 + (k : Int).toNat * 1 = k by omega, List.getElem?_map, hr]; rfl
    have h1 := cntR_take L k hr
    have h2 := cntR_le L (k + 1)
    have h3 : (L.take (k + 1)).flatMap Rw.xs = (L.take k).flatMap Rw.xs ++ r.xs := by
      rw [List.take_add_one, hr, Option.toList_some, List.flatMap_append]
      simp
    obtain ⟨h4, h5, h6⟩ := hL r (List.mem_of_getElem? hr)
    apply W.sk
    apply W.sb
    apply W.sr
    apply oop; rfl; apply Pev.idxB; rfl; exact yes; rfl; exact yes; rfl; intro hcond; omega; rfl
    apply oop; rfl; apply Pev.load_kept; rfl; exact yes; exact .head _; rfl; intro hcond; assumption; intro hcond; assumption; intro hcond; exact NotOwned.au
    apply oas; rfl; rfl
    apply OL.nx
    apply W.reg
    apply omv; rfl; rfl
    apply omv; rfl; rfl
    (apply OL.appendK (news := r.xs)); rfl; rfl; rfl; rfl; (exact Hole.au); (exact fun w2 hw2 => h4.keep (hw2.below (s := w) (by exact mau) (Nat.le_refl _) (fun k hk => NotOwned.row (by omega) NotOwned.nil)) (hw2.kp w (by exact mau)).size); (exact h5); (exact h6); (exact ⟨w, .head _, Nat.le_refl _⟩); (omega); (intro O3 q3 c3)
    apply oas; rfl; rfl
    apply OL.nil
    with_reducible apply At.in_normal
    with_reducible apply At.next
    apply W.reg
    apply obn; rfl; rfl; rfl; apply Bin.add_in; omega
    apply omv; rfl; rfl
    apply OL.nil
    exact At.again (k + 1, ⟨O3, q3, c3⟩) (by simp only; omega) (by simp only; omega) (by simp only [h1]; exact Sub.au) (fun w' hw' => by simp only [h1, h3]; exact hw')
  obtain rfl : k = L.length := by omega
  rw [List.take_length]
  refine W.xt ?_
  with_reducible apply At.next
  apply W.sr
  apply omv; rfl; rfl
  apply oas; rfl; rfl
  apply OL.nx
  apply W.ret
  ((with_reducible apply At.fin1); rfl; rfl; intro w' hw')
  exact ⟨O2, q2, c2, rfl, hw'⟩
end Go.Proofs.Ytehelljmaiophaa.ss

/- Plain: the parts of the lives of values. No program in sight. No condition. -/
namespace Go.Ss
open Go.Eng Go.RowKit
set_option linter.unusedVariables false
set_option linter.unusedSimpArgs false
structure Rg where
  val : Nat
  block : Nat
  from_ : Nat
  to_ : Nat
def rgC (r : Rg) : List Value := [.int .i64 (r.val : Int), .int .i64 (r.block : Int), .int .i64 (r.from_ : Int), .int .i64 (r.to_ : Int)]
theorem rgC_len : ∀ r, (rgC r).length = 4 := fun _ => rfl
theorem rgC_one : ∀ (l : List Rg), oneL (cat rgC l) = true
  | [] => rfl
  | r :: l => by
    show (Value.oneCell' _ && (Value.oneCell' _ && (Value.oneCell' _ && (Value.oneCell' _ && oneL (cat rgC l))))) = true
    rw [rgC_one l]; rfl
/-- the part that a list of places tells -/
def partOf (v k : Nat) (l : List Nat) : List Rg := match l with
  | [] => []
  | a :: r => [⟨v, k, a, (a :: r).getLastD a⟩]
/-- one more place, ahead of the others -/
def stepR (v k n : Nat) (l : List Rg) : List Rg := match l.getLast? with
  | some g => if g.block = k then l.dropLast ++ [⟨g.val, g.block, n, g.to_⟩] else l ++ [⟨v, k, n, n⟩]
  | none => [⟨v, k, n, n⟩]
theorem stepR_part {v k n : Nat} {A : List Rg} {l : List Nat} (hA : ∀ g ∈ A, g.block < k) : stepR v k n (A ++ partOf v k l) = A ++ partOf v k (n :: l) := by
  unfold stepR
  cases l with
  | nil =>
    simp only [partOf, List.append_nil]
    cases hg : A.getLast? with
    | none =>
      rw [List.getLast?_eq_none_iff.1 hg]
      rfl
    | some g =>
      have := hA g (List.mem_of_getLast? hg)
      simp only
      rw [if_neg (by omega)]
      rfl
  | cons a r =>
    have h1 : (A ++ partOf v k (a :: r)).getLast? = some ⟨v, k, a, (a :: r).getLastD a⟩ := by simp [partOf]
    rw [h1]
    simp only [if_true]
    have h2 : ∀ x y : Nat, (a :: r).getLast?.getD x = (a :: r).getLast?.getD y := fun x y => by
      cases hx : (a :: r).getLast? with
      | none => rw [List.getLast?_eq_none_iff] at hx; cases hx
      | some z => rfl
    simp [partOf]
    exact h2 _ _
/-- the places, from n on, at which a value is live -/
noncomputable def plcF (bs : List Bk) (v k n len : Nat) : List Nat := (List.range' n (len + 1 - n)).filter fun j => liveB bs (v : Int) k j
theorem plcF_end {bs : List Bk} {v k n len : Nat} (h : len < n) : plcF bs v k n len = [] := by
  unfold plcF
  rw [show len + 1 - n = 0 by omega]
  rfl
theorem plcF_next {bs : List Bk} {v k n len : Nat} (h : n ≤ len) : plcF bs v k n len = if liveB bs (v : Int) k n then n :: plcF bs v k (n + 1) len else plcF bs v k (n + 1) len := by
  unfold plcF
  rw [show len + 1 - n = (len + 1 - (n + 1)) + 1 by omega, List.range'_succ, List.filter_cons]
/-- the parts in the blocks ahead of block k -/
noncomputable def partsT (bs : List Bk) (v k : Nat) : List Rg := (List.range k).flatMap fun j => partOf v j (plcF bs v j 0 (bs.getD j noB).ins.length)
theorem partsT_block {bs : List Bk} {v k : Nat} : ∀ g ∈ partsT bs v k, g.block < k := fun g hg => by
  obtain ⟨j, hj, hg⟩ := List.mem_flatMap.1 hg
  have hj := List.mem_range.1 hj
  unfold partOf at hg
  split at hg
  · cases hg
  · rw [List.mem_singleton.1 hg]; exact hj
theorem partsT_succ {bs : List Bk} {v k : Nat} : partsT bs v (k + 1) = partsT bs v k ++ partOf v k (plcF bs v k 0 (bs.getD k noB).ins.length) := by
  unfold partsT
  rw [List.range_succ, List.flatMap_append]
  simp
theorem partOf_len (v k : Nat) (l : List Nat) : (partOf v k l).length ≤ 1 := by
  unfold partOf
  split <;> simp
theorem partsT_len {bs : List Bk} {v : Nat} : ∀ {k : Nat}, (partsT bs v k).length ≤ k
  | 0 => by simp [partsT]
  | k + 1 => by
    have := partsT_len (bs := bs) (v := v) (k := k)
    have := partOf_len v k (plcF bs v k 0 (bs.getD k noB).ins.length)
    rw [partsT_succ, List.length_append]
    omega
/-- the parts of value v behind the places from n on of block k -/
noncomputable def partsN (bs : List Bk) (v k n : Nat) : List Rg := partsT bs v k ++ partOf v k (plcF bs v k n (bs.getD k noB).ins.length)
theorem partsN_zero {bs : List Bk} {v k : Nat} : partsN bs v k 0 = partsT bs v (k + 1) := partsT_succ.symm
theorem partsN_end {bs : List Bk} {v k n : Nat} (h : (bs.getD k noB).ins.length < n) : partsN bs v k n = partsT bs v k := by
  unfold partsN
  rw [plcF_end h]
  simp [partOf]
theorem partsN_step {bs : List Bk} {v k n : Nat} (h : n ≤ (bs.getD k noB).ins.length) : partsN bs v k n = if liveB bs (v : Int) k n then stepR v k n (partsN bs v k (n + 1)) else partsN bs v k (n + 1) := by
  unfold partsN
  rw [plcF_next h]
  split
  · exact (stepR_part partsT_block).symm
  · rfl
theorem partsN_len {bs : List Bk} {v k n : Nat} : (partsN bs v k n).length ≤ k + 1 := by
  have := partsT_len (bs := bs) (v := v) (k := k)
  have := partOf_len v k (plcF bs v k n (bs.getD k noB).ins.length)
  unfold partsN
  rw [List.length_append]
  omega
/-- the rows of a table tell the parts -/
def RgOf (L : List Rw) (m : Nat) (f : Nat → List Rg) : Prop := L.length = m ∧ ∀ (v : Nat) r, L[v]? = some r → r.xs = cat rgC (f v) ∧ r.m = (f v).length
theorem RgOf.set {L : List Rw} {m v : Nat} {f g : Nat → List Rg} {r : Rw} (h : RgOf L m f) (hr : r.xs = cat rgC (g v) ∧ r.m = (g v).length) (hg : ∀ k, k ≠ v → g k = f k) : RgOf (L.set v r) m g := by
  refine ⟨by rw [List.length_set]; exact h.1, fun k s hs => ?_⟩
  rw [List.getElem?_set] at hs
  split at hs
  · rename_i e
    subst e
    split at hs
    · obtain rfl := Option.some.inj hs
      exact hr
    · cases hs
  · rename_i e
    rw [hg k (fun h => e h.symm)]
    exact h.2 k s hs
theorem RgOf.congr {L : List Rw} {m : Nat} {f g : Nat → List Rg} (h : RgOf L m f) (hg : ∀ k, k < m → g k = f k) : RgOf L m g := ⟨h.1, fun k r hr => by
  rw [hg k (by rw [← h.1]; exact (List.getElem?_eq_some_iff.1 hr).1)]
  exact h.2 k r hr⟩
end Go.Ss

/- The walk of live's Ranges. Conditions: none. -/
namespace Go.Eng
open Go.RowKit
set_option linter.unusedVariables false
set_option linter.unusedSimpArgs false
theorem Cls.p7a {S : List World} {w : World} {a b c d e f g : Item} (h : Cls [a, b, c, d, e, f, g] S w) : Cls [g, a, b, c, d, e, f] S w := h.perm (List.perm_middle (l₁ := [a, b, c, d, e, f]) (l₂ := []))
theorem Cls.p6b {S : List World} {w : World} {a b c d e f : Item} (h : Cls [f, a, b, c, d, e] S w) : Cls [a, b, c, d, e, f] S w := h.perm (List.perm_middle (l₁ := [a, b, c, d, e]) (l₂ := [])).symm
end Go.Eng
namespace Go.Ss
open Go.Eng Go.RowKit
set_option linter.unusedVariables false
set_option linter.unusedSimpArgs false
theorem onK_at {s : List Bool} {m j : Nat} {x : Int} (h : (onK s m)[j]? = some x) : ∃ v : Nat, x = (v : Int) ∧ v < m ∧ s.getD v false = true ∧ ¬ (v : Int) ∈ (onK s m).take j := by
  have hm := List.mem_of_getElem? h
  unfold onK at hm
  obtain ⟨v, hv, rfl⟩ := List.mem_map.1 hm
  obtain ⟨h1, h2⟩ := List.mem_filter.1 hv
  refine ⟨v, rfl, List.mem_range.1 h1, h2, fun ht => ?_⟩
  have hnd : (onK s m).Nodup := by
    unfold onK
    rw [List.nodup_iff_pairwise_ne, List.pairwise_map]
    have := (List.nodup_range (n := m)).filter (fun j => s.getD j false)
    have this : List.Pairwise (fun x y => x ≠ y) (List.filter (fun j => s.getD j false) (List.range m)) := this
    exact this.imp fun h e => h (by omega)
  obtain ⟨i, hi⟩ := List.getElem?_of_mem ht
  have hil := (List.getElem?_eq_some_iff.1 hi).1
  rw [List.length_take] at hil
  rw [List.getElem?_take_of_lt (by omega)] at hi
  have := (List.getElem?_inj (by omega) hnd).1 (hi.trans h.symm)
  omega
theorem onK_mem {s : List Bool} {m v : Nat} : (v : Int) ∈ onK s m ↔ v < m ∧ s.getD v false = true := by
  unfold onK
  rw [List.mem_map]
  constructor
  · rintro ⟨u, hu, e⟩
    obtain ⟨h1, h2⟩ := List.mem_filter.1 hu
    obtain rfl : u = v := by omega
    exact ⟨List.mem_range.1 h1, h2⟩
  · rintro ⟨h1, h2⟩
    exact ⟨v, List.mem_filter.2 ⟨List.mem_range.2 h1, h2⟩, rfl⟩
theorem List.dropLast_append_getLast?' {α : Type} {l : List α} {x : α} (h : l.getLast? = some x) : l.dropLast ++ [x] = l := by
  rcases List.eq_nil_or_concat l with rfl | ⟨L, b, rfl⟩
  · cases h
  · simp at h ⊢
    exact h.symm
structure XLm (S : List World) where
  b1 : Nat
  hb1 : AllLe S b1
  g1 : Nat
  c1 : Nat
  O1 : Nat → Prop
  old : Nat → Value
end Go.Ss
namespace Go.Proofs.Ytehelljmaiophaa.ss
set_option maxRecDepth 100000
open Go.Eng Go.RowKit Go.Ss
set_option linter.unusedVariables false
set_option linter.unusedSimpArgs false
theorem Ran1_calls (n k m bP b7 b8 B0 B c g : Nat) (O : Nat → Prop) (s : List Bool) (L : List Rw) (f : Nat → List Rg) (X : Eng.Item) (S : List World) (w : World) (hs : s.length = m) (hm : m ≤ 1000000) (hL : RgOf L m f) (hf : ∀ v, (f v).length ≤ 1000) (hB : AllLe S B) (hB0 : ∃ s ∈ S, B0 ≤ s.heap.size)
    (hc : Cls [row B O (some ⟨g, 0, none⟩) m c 4 1 (bls s), X, blk b8 3 [.int .i64 (k : Int)], blk b7 94 [.slice (some ⟨bP, 0, none⟩) m m], blk bP 30 (L.map slC), rws B0 44 4 (fun j => L[j]?)] S w) :
    Calls Try.prog 62 [.int .i64 (n : Int), .slice (some ⟨g, 0, none⟩) m c, .pointer (some ⟨b7, 0, none⟩), .pointer (some ⟨b8, 0, none⟩)].toArray w fun e w' => ∃ L', e = .returned (.tuple #[]) ∧ RgOf L' m (fun v => if s.getD v false then stepR v k n (f v) else f v) ∧
      Cls [row B O (some ⟨g, 0, none⟩) m c 4 1 (bls s), X, blk b8 3 [.int .i64 (k : Int)], blk b7 94 [.slice (some ⟨bP, 0, none⟩) m m], blk bP 30 (L'.map slC), rws B0 44 4 (fun j => L'[j]?)] S w' := by
  have hLi := fun w2 (h : BoolsO w2 (low w2) s (some ⟨g, 0, none⟩)) => list_calls (some ⟨g, 0, none⟩) c s w2 h (by omega)
  rw [hs] at hLi
  refine enter Try.func62 rfl Try.ntmps62 rfl hc ?_
  (simp only [argEnv, Nat.zero_add, Nat.reduceAdd])
  apply W.sr
  apply omv; rfl; rfl
  have hol := onK_len s m
  obtain ⟨l, hl⟩ : ∃ l, onK s m = l := ⟨_, rfl⟩
  have hat : ∀ {j : Nat} {x : Int}, l[j]? = some x → ∃ v : Nat, x = (v : Int) ∧ v < m ∧ s.getD v false = true ∧ ¬ (v : Int) ∈ l.take j := fun {j x} h => by rw [← hl] at h ⊢; exact onK_at h
  rw [hl] at hLi hol
  refine OL.callE (α := ((Nat → Prop) × Option Addr × Nat) × Nat) (fun z => .slice z.1.2.1 l.length z.1.2.2) (fun z => AllLe S z.2) (fun z => Cls [row z.2 z.1.1 z.1.2.1 l.length z.1.2.2 3 1 (ints l), row B O (some ⟨g, 0, none⟩) m c 4 1 (bls s), X, blk b8 3 [.int .i64 (k : Int)], blk b7 94 [.slice (some ⟨bP, 0, none⟩) m m], blk bP 30 (L.map slC), rws B0 44 4 (fun j => L[j]?)] S) rfl rfl (by exact Args.au) (fun w2 hw2 => (hLi w2 (rowBoolsL hw2 (.head _))).mono fun e w3 ⟨O', q', c', h1, h2⟩ => ⟨((O', q', c'), w2.heap.size), h1, AllLe.mk hw2, hw2.plusD h2 (.head _) (fun k hk => hk.1)⟩) ?_
  rintro ⟨⟨Ol, ql, cl⟩, Bl⟩ hBl
  simp only at hBl ⊢
  apply oop; rfl; apply Pev.len_slice; rfl; exact yes; rfl
  apply omv; rfl; rfl
  apply OL.nx
  apply W.block
  refine W.loop (G := Nat × List Rw) (fun z => z.1 ≤ l.length ∧ RgOf z.2 m (fun v => if (v : Int) ∈ l.take z.1 then stepR v k n (f v) else f v)) (fun z => l.length - z.1)
    (fun z => [(0, true, .int .i64 (n : Int)), (2, true, .pointer (some ⟨b7, 0, none⟩)), (3, true, .pointer (some ⟨b8, 0, none⟩)), (10, true, .slice ql l.length cl), (11, true, .int .i64 (l.length : Int)), (12, true, .int .i64 (z.1 : Int))])
    (fun z => Cls [rws B0 44 4 (fun j => z.2[j]?), row Bl Ol ql l.length cl 3 1 (ints l), row B O (some ⟨g, 0, none⟩) m c 4 1 (bls s), X, blk b8 3 [.int .i64 (k : Int)], blk b7 94 [.slice (some ⟨bP, 0, none⟩) m m], blk bP 30 (z.2.map slC)] S)
    (0, L) ⟨by simp, by simpa using hL⟩ (by exact Sub.au) (fun w' hw' => hw'.p7a) ?_
  rintro ⟨j, M⟩ ⟨hj, hM⟩
  simp only at hj hM ⊢
  have hMl := hM.1
  apply W.sr
  apply obn; rfl; rfl; rfl; apply Bin.lss
  apply OL.nx
  apply W.seq
  (refine W.cnd (fun hlt => ?_) (fun hlt => ?_)) <;> (try (exfalso; first | omega | exact hlt trivial | contradiction))
  · have hjl : j < l.length := by omega
    obtain ⟨x, hx⟩ : ∃ x, l[j]? = some x := ⟨_, List.getElem?_eq_getElem hjl⟩
    obtain ⟨v, rfl, hvm, hvs, hvn⟩ := hat hx
    obtain ⟨r, hr⟩ : ∃ r, M[v]? = some r := ⟨_, List.getElem?_eq_getElem (by omega)⟩
    obtain ⟨hrx, hrm⟩ := hM.2 v r hr
    simp only [if_neg hvn] at hrx hrm
    have hfv := hf v
    have hxi : (ints l)[0 + (j : Int).toNat * 1]? = some (.int .i64 (v : Int)) := by rw [show 0 + (j : Int).toNat * 1 = j by omega]; exact ints_get hx
    have hrv : (M.map slC)[0 + (v : Int).toNat * 1]? = some (.slice r.q r.m r.cap) := by
      rw [show 0 + (v : Int).toNat * 1 = v by omega, List.getElem?_map, hr]; rfl
    have hnx : ∀ u : Nat, u ≠ v → ((u : Int) ∈ l.take (j + 1) ↔ (u : Int) ∈ l.take j) := fun u hu => by
      rw [List.take_add_one, hx, Option.toList_some, List.mem_append, List.mem_singleton]
      constructor
      · rintro (h | h)
        · exact h
        · omega
      · exact .inl
    have hvt : (v : Int) ∈ l.take (j + 1) := by
      rw [List.take_add_one, hx, Option.toList_some]
      exact List.mem_append_right _ (.head _)
    refine W.fact (fun w2 hw2 => row_some (hw2.item (.tail _ (.head _))) (by omega)) ?_
    rintro ⟨gl, rfl⟩
    refine W.cls (C' := Cls [row B0 r.O r.q r.m r.cap 44 4 r.xs, rws B0 44 4 (fout M v), row Bl Ol (some ⟨gl, 0, none⟩) l.length cl 3 1 (ints l), row B O (some ⟨g, 0, none⟩) m c 4 1 (bls s), X, blk b8 3 [.int .i64 (k : Int)], blk b7 94 [.slice (some ⟨bP, 0, none⟩) m m], blk bP 30 (M.map slC)] S) (fun w' hw' => hw'.rws_out hr) ?_
    rw [hrx]
    obtain ⟨b0, hb0⟩ : ∃ b0, (match (f v).getLast? with | some g => decide (g.block = k) | none => false) = b0 := ⟨_, rfl⟩
    apply W.sk
    apply W.sb
    apply W.sr
    apply oop; rfl; apply Pev.idxB; rfl; exact yes; rfl; exact yes; rfl; intro hcond; omega; rfl
    apply oop; rfl; apply Pev.load_row; rfl; exact yes; exact .tail _ (.tail _ (.head _)); rfl; assumption
    apply oas; rfl; rfl
    apply OL.nsr
    apply old; rfl; rfl; apply List.Mem.tail; apply List.Mem.tail; apply List.Mem.tail; apply List.Mem.tail; exact .tail _ (.tail _ (.head _)); rfl; rfl
    apply omv; rfl; rfl
    apply oop; rfl; apply Pev.idxB; rfl; exact yes; rfl; exact yes; rfl; intro hcond; omega; rfl
    apply oop; rfl; apply Pev.load_blk; rfl; exact yes; apply List.Mem.tail; apply List.Mem.tail; apply List.Mem.tail; apply List.Mem.tail; apply List.Mem.tail; exact .tail _ (.tail _ (.head _)); rfl; assumption
    apply oop; rfl; apply Pev.len_slice; rfl; exact yes; rfl
    apply oas; rfl; rfl
    apply OL.nx
    apply W.seq
    refine W.joinc [(35, true, .bool b0), (0, true, .int .i64 (n : Int)), (2, true, .pointer (some ⟨b7, 0, none⟩)), (3, true, .pointer (some ⟨b8, 0, none⟩)), (7, true, .int .i64 (v : Int)), (8, true, .int .i64 (r.m : Int)), (10, true, .slice (some ⟨gl, 0, none⟩) l.length cl), (11, true, .int .i64 (l.length : Int)), (12, true, .int .i64 (j : Int))] (Cls [row B0 r.O r.q r.m r.cap 44 4 (cat rgC (f v)), rws B0 44 4 (fout M v), row Bl Ol (some ⟨gl, 0, none⟩) l.length cl 3 1 (ints l), row B O (some ⟨g, 0, none⟩) m c 4 1 (bls s), X, blk b8 3 [.int .i64 (k : Int)], blk b7 94 [.slice (some ⟨bP, 0, none⟩) m m], blk bP 30 (M.map slC)] S) ?_ ?_
    · by_cases hm0 : r.m = 0
      · have hf0 : f v = [] := by rw [hrm] at hm0; exact List.length_eq_zero_iff.1 hm0
        obtain rfl : b0 = false := by rw [← hb0, hf0]; rfl
        rw [hm0] at hrv ⊢
        apply W.regd0; decide +kernel; kernel_rfl; decide +kernel; exact fun w hw => hw.drew
        apply qmv; rfl; rfl
        apply qbn; rfl; rfl; rfl; apply Bin.gtr
        apply qmv; rfl; rfl
        apply qy; rfl; rfl; rfl; apply Pev.load_blk; rfl; exact yes; apply List.Mem.tail; apply List.Mem.tail; apply List.Mem.tail; apply List.Mem.tail; exact .tail _ (.tail _ (.head _)); rfl; rfl
        apply qy; rfl; rfl; rfl; apply Pev.move; rfl; exact yes
        apply qy; rfl; rfl; rfl; apply Pev.idxB; rfl; exact fun h => h; rfl; exact fun h => h; rfl; intro hcond; omega; rfl
        apply qy; rfl; rfl; rfl; apply Pev.load_blk; rfl; exact fun h => h; apply List.Mem.tail; apply List.Mem.tail; apply List.Mem.tail; apply List.Mem.tail; apply List.Mem.tail; exact .tail _ (.tail _ (.head _)); rfl; assumption
        apply qy; rfl; rfl; rfl; apply Pev.move; rfl; exact yes
        apply qy; rfl; rfl; rfl; apply Pev.bin; rfl; exact fun h => h; rfl; exact yes; intro hcond; apply Bin.sub_in; omega
        apply QL.gateOff; exact Guard.yes rfl rfl; rfl; rfl
        apply QL.gateOff; exact Guard.yes rfl rfl; rfl; rfl
        apply QL.gateOff; exact Guard.yes rfl rfl; rfl; rfl
        apply qy; rfl; rfl; rfl; apply Pev.load_blk; rfl; exact yes; apply List.Mem.tail; apply List.Mem.tail; apply List.Mem.tail; exact .tail _ (.tail _ (.head _)); rfl; rfl
        apply QL.gateOff; exact Guard.yes rfl rfl; rfl; rfl
        apply qop; rfl; apply Pev.pick_off; rfl; exact yes; (intro hcond; rfl); rfl; exact yes
        apply QL.nil
        exact At.joined (by exact Sub.au) (fun w' hw' => hw')
      · obtain ⟨gl1, hgl1⟩ : ∃ g, (f v).getLast? = some g := by
          cases hg : (f v).getLast? with
          | none =>
            rw [List.getLast?_eq_none_iff.1 hg] at hrm
            exact absurd hrm hm0
          | some g => exact ⟨g, rfl⟩
        have hgl2 : (f v)[r.m - 1]? = some gl1 := by rw [hrm, ← List.getLast?_eq_getElem?]; exact hgl1
        have hgl3 : (f v)[((r.m : Int) - 1).toNat]? = some gl1 := by rw [show ((r.m : Int) - 1).toNat = r.m - 1 by omega]; exact hgl2
        rw [hgl1] at hb0
        simp only at hb0
        refine W.fact (fun w2 hw2 => row_some (hw2.item (.head _)) (by omega)) ?_
        rintro ⟨gr, hgr⟩
        rw [hgr] at hrv ⊢
        apply W.regd0; decide +kernel; kernel_rfl; decide +kernel; exact fun w hw => hw.drew
        apply qmv; rfl; rfl
        apply qbn; rfl; rfl; rfl; apply Bin.gtr
        apply qmv; rfl; rfl
        apply qy; rfl; rfl; rfl; apply Pev.load_blk; rfl; exact yes; apply List.Mem.tail; apply List.Mem.tail; apply List.Mem.tail; apply List.Mem.tail; exact .tail _ (.tail _ (.head _)); rfl; rfl
        apply qy; rfl; rfl; rfl; apply Pev.move; rfl; exact yes
        apply qy; rfl; rfl; rfl; apply Pev.idxB; rfl; exact fun h => h; rfl; exact fun h => h; rfl; intro hcond; omega; rfl
        apply qy; rfl; rfl; rfl; apply Pev.load_blk; rfl; exact fun h => h; apply List.Mem.tail; apply List.Mem.tail; apply List.Mem.tail; apply List.Mem.tail; apply List.Mem.tail; exact .tail _ (.tail _ (.head _)); rfl; assumption
        apply qy; rfl; rfl; rfl; apply Pev.move; rfl; exact yes
        apply qy; rfl; rfl; rfl; apply Pev.bin; rfl; exact fun h => h; rfl; exact yes; intro hcond; apply Bin.sub_in; omega
        apply qy; rfl; rfl; rfl; apply Pev.idxB; rfl; exact fun h => h; rfl; exact fun h => h; rfl; intro hcond; omega; rfl
        apply qy; rfl; rfl; rfl; apply Pev.fld; rfl; exact fun h => h; rfl
        apply qy; rfl; rfl; rfl; apply Pev.load_rowC; rfl; exact fun h => h; exact .head _; rfl; exact fun _ => rfl; (intro hcond; assumption); rfl; (intro hcond; omega)
        apply qy; rfl; rfl; rfl; apply Pev.load_blk; rfl; exact yes; apply List.Mem.tail; apply List.Mem.tail; apply List.Mem.tail; exact .tail _ (.tail _ (.head _)); rfl; rfl
        apply qy; rfl; rfl; rfl; apply Pev.bin; rfl; exact fun h => h; rfl; exact fun h => h; intro hcond; apply Bin.eql
        apply qop; rfl; apply Pev.pick_and; rfl; exact yes; rfl; exact fun h => h
        apply QL.nil
        refine At.joined (Sub.cons_eq rfl (congrArg Value.bool ?_) (by exact Sub.au)) (fun w' hw' => hw')
        rw [← hb0, decide_eq_true (show (0 : Int) < (r.m : Int) by omega), Bool.true_and]
        exact decide_eq_decide.2 (by omega)
    have hback : ∀ {O1 : Nat → Prop} {q1 : Option Addr} {m1 c1 : Nat} {w' : World}, m1 = (stepR v k n (f v)).length → Cls [row B0 O1 q1 m1 c1 44 4 (cat rgC (stepR v k n (f v))), rws B0 44 4 (fout M v), row Bl Ol (some ⟨gl, 0, none⟩) l.length cl 3 1 (ints l), row B O (some ⟨g, 0, none⟩) m c 4 1 (bls s), X, blk b8 3 [.int .i64 (k : Int)], blk b7 94 [.slice (some ⟨bP, 0, none⟩) m m], blk bP 30 ((M.set v ⟨O1, q1, m1, c1, cat rgC (stepR v k n (f v))⟩).map slC)] S w' →
        RgOf (M.set v ⟨O1, q1, m1, c1, cat rgC (stepR v k n (f v))⟩) m (fun u => if (u : Int) ∈ l.take (j + 1) then stepR u k n (f u) else f u) ∧ Cls [rws B0 44 4 (fun i => (M.set v ⟨O1, q1, m1, c1, cat rgC (stepR v k n (f v))⟩)[i]?), row Bl Ol (some ⟨gl, 0, none⟩) l.length cl 3 1 (ints l), row B O (some ⟨g, 0, none⟩) m c 4 1 (bls s), X, blk b8 3 [.int .i64 (k : Int)], blk b7 94 [.slice (some ⟨bP, 0, none⟩) m m], blk bP 30 ((M.set v ⟨O1, q1, m1, c1, cat rgC (stepR v k n (f v))⟩).map slC)] S w' := fun {O1 q1 m1 c1 w'} hm1 hw' => by
      refine ⟨hM.set ⟨by simp only [if_pos hvt], by simp only [if_pos hvt]; exact hm1⟩ (fun u hu => ?_), hw'.rws_in (by omega)⟩
      simp only [hnx u hu]
    refine W.cond rfl (fun h3 => ?_) (fun h3 => ?_)
    · subst h3
      cases hg : (f v).getLast? with
      | none => rw [hg] at hb0; cases hb0
      | some gl1 =>
        rw [hg] at hb0
        have hbk1 : gl1.block = k := of_decide_eq_true hb0
        have hfl : 0 < (f v).length := by
          rcases Nat.eq_zero_or_pos (f v).length with h | h
          · rw [List.length_eq_zero_iff.1 h] at hg; cases hg
          · exact h
        have hst : stepR v k n (f v) = (f v).dropLast ++ [⟨gl1.val, gl1.block, n, gl1.to_⟩] := by unfold stepR; rw [hg]; simp only; rw [if_pos hbk1]
        have hsp : f v = (f v).dropLast ++ [gl1] := (List.dropLast_append_getLast?' hg).symm
        refine W.fact (fun w2 hw2 => row_some (hw2.item (.head _)) (by omega)) ?_
        rintro ⟨gr, hgr⟩
        rw [hgr] at hrv ⊢
        apply W.reg
        apply old; rfl; rfl; apply List.Mem.tail; apply List.Mem.tail; apply List.Mem.tail; apply List.Mem.tail; exact .tail _ (.tail _ (.head _)); rfl; rfl
        apply omv; rfl; rfl
        apply oop; rfl; apply Pev.idxB; rfl; exact yes; rfl; exact yes; rfl; intro hcond; omega; rfl
        apply oop; rfl; apply Pev.load_blk; rfl; exact yes; apply List.Mem.tail; apply List.Mem.tail; apply List.Mem.tail; apply List.Mem.tail; apply List.Mem.tail; exact .tail _ (.tail _ (.head _)); rfl; assumption
        apply omv; rfl; rfl
        apply obn; rfl; rfl; rfl; apply Bin.sub_in; omega
        apply omv; rfl; rfl
        apply oop; rfl; apply Pev.idxB; rfl; exact yes; rfl; exact yes; rfl; intro hcond; omega; rfl
        apply ofa; rfl; rfl; rfl
        (apply OL.storeRs); rfl; rfl; rfl; rfl; rfl; (exact Hole.au); (rw [cat_length rgC_len]; omega)
        rw [show (cat rgC (f v)).set (0 + ((r.m : Int) - 1).toNat * 4 + 2) (.int .i64 (n : Int)) = cat rgC (stepR v k n (f v)) by
          have hdl : (f v).dropLast.length = r.m - 1 := by rw [List.length_dropLast, hrm]
          rw [hst]
          conv => lhs; rw [hsp]
          rw [cat_append, cat_append, show 0 + ((r.m : Int) - 1).toNat * 4 + 2 = (cat rgC (f v).dropLast).length + 2 by rw [cat_length rgC_len, hdl]; omega]
          rw [List.set_append_right _ _ (by omega), show (cat rgC (f v).dropLast).length + 2 - (cat rgC (f v).dropLast).length = 2 by omega]
          rfl]
        apply OL.nil
        with_reducible apply At.in_normal
        with_reducible apply At.next
        apply W.reg
        apply obn; rfl; rfl; rfl; apply Bin.add_in; omega
        apply omv; rfl; rfl
        apply OL.nil
        have hsm : (M.set v ⟨r.O, some ⟨gr, 0, none⟩, r.m, r.cap, cat rgC (stepR v k n (f v))⟩).map slC = M.map slC := by
          rw [List.map_set]
          refine set_same ?_
          rw [List.getElem?_map, hr]
          simp only [Option.map_some, slC, hgr]
        have hln : r.m = (stepR v k n (f v)).length := by
          rw [hst, hrm]
          simp
          omega
        have hb2 := fun w' (hw' : Cls _ S w') => hback (O1 := r.O) (q1 := some ⟨gr, 0, none⟩) (m1 := r.m) (c1 := r.cap) (w' := w') hln (by rw [hsm]; exact hw')
        rw [hsm] at hb2
        refine At.fact (fun w' hw' => (hb2 w' hw').1) (fun hRg => ?_)
        exact At.again (j + 1, M.set v ⟨r.O, some ⟨gr, 0, none⟩, r.m, r.cap, cat rgC (stepR v k n (f v))⟩) ⟨by simp only; omega, hRg⟩ (by simp only; omega) (by exact Sub.au) (fun w' hw' => by simp only; rw [hsm]; exact (hb2 w' hw').2)
    · subst h3
      have hst : stepR v k n (f v) = f v ++ [⟨v, k, n, n⟩] := by
        unfold stepR
        cases hg : (f v).getLast? with
        | none => rw [List.getLast?_eq_none_iff.1 hg]; rfl
        | some gl1 =>
          rw [hg] at hb0
          simp only
          rw [if_neg (of_decide_eq_false hb0)]
      skip
      refine W.regany (X := XLm S) (fun z e => [(58, true, bif e 13 then .pointer (some ⟨bP, (0 + (v : Int).toNat * 1), none⟩) else z.old 58), (57, true, bif e 12 then .slice (some ⟨z.g1, 0, none⟩) (r.m + 1) z.c1 else z.old 57), (56, true, bif e 11 then .slice (some ⟨z.b1, 0, none⟩) 1 1 else z.old 56), (55, true, bif e 10 then .agg #[.int .i64 (v : Int), .int .i64 (k : Int), .int .i64 (n : Int), .int .i64 (n : Int)] else z.old 55), (54, true, bif e 9 then .int .i64 (n : Int) else z.old 54), (53, true, bif e 8 then .int .i64 (n : Int) else z.old 53), (52, true, bif e 7 then .int .i64 (k : Int) else z.old 52), (51, true, bif e 6 then .int .i64 (v : Int) else z.old 51), (50, true, bif e 5 then .slice r.q r.m r.cap else z.old 50), (49, true, bif e 4 then .pointer (some ⟨bP, (0 + (v : Int).toNat * 1), none⟩) else z.old 49), (48, true, bif e 3 then .int .i64 (v : Int) else z.old 48), (47, true, bif e 2 then .slice (some ⟨bP, 0, none⟩) m m else z.old 47), (46, true, bif e 1 then .int .i64 (v : Int) else z.old 46), (45, true, bif e 0 then .slice (some ⟨bP, 0, none⟩) m m else z.old 45), (35, true, .bool false), (0, true, .int .i64 (n : Int)), (2, true, .pointer (some ⟨b7, 0, none⟩)), (3, true, .pointer (some ⟨b8, 0, none⟩)), (7, true, .int .i64 (v : Int)), (8, true, .int .i64 (r.m : Int)), (10, true, .slice (some ⟨gl, 0, none⟩) l.length cl), (11, true, .int .i64 (l.length : Int)), (12, true, .int .i64 (j : Int))])
        (fun z e => (bif e 12 then row B0 z.O1 (some ⟨z.g1, 0, none⟩) (r.m + 1) z.c1 44 4 (cat rgC (f v) ++ [.int .i64 (v : Int), .int .i64 (k : Int), .int .i64 (n : Int), .int .i64 (n : Int)]) else row B0 r.O r.q r.m r.cap 44 4 (cat rgC (f v))) :: (rws B0 44 4 (fout M v)) :: (row Bl Ol (some ⟨gl, 0, none⟩) l.length cl 3 1 (ints l)) :: (row B O (some ⟨g, 0, none⟩) m c 4 1 (bls s)) :: (X) :: (blk b8 3 [.int .i64 (k : Int)]) :: (blk b7 94 [.slice (some ⟨bP, 0, none⟩) m m]) :: (blk bP 30 (bif e 14 then (M.map slC).set (0 + (v : Int).toNat * 1) (.slice (some ⟨z.g1, 0, none⟩) (r.m + 1) z.c1) else M.map slC)) :: (bif e 11 then blk z.b1 44 [.int .i64 (v : Int), .int .i64 (k : Int), .int .i64 (n : Int), .int .i64 (n : Int)] else nothing) :: [])
        (fun old => ⟨Bl, hBl, 0, 0, fun _ => False, old⟩) (by kernel_rfl) (by kernel_rfl) (fun w hw => hw.drew) (fun old => by repeat (first | exact SubO.nil | apply SubO.cons rfl | refine SubO.old rfl ?_)) (fun old w' hw' => hw'.add_nothing) ?_ ?_
      · intro z e i o ho hei hd hcl
        have hi : i < 15 := (List.getElem?_eq_some_iff.1 ho).1
        obtain rfl | rfl | rfl | rfl | rfl | rfl | rfl | rfl | rfl | rfl | rfl | rfl | rfl | rfl | rfl : i = 0 ∨ i = 1 ∨ i = 2 ∨ i = 3 ∨ i = 4 ∨ i = 5 ∨ i = 6 ∨ i = 7 ∨ i = 8 ∨ i = 9 ∨ i = 10 ∨ i = 11 ∨ i = 12 ∨ i = 13 ∨ i = 14 := by omega
        · cases ho
          have v0 : Eng.upd e 0 0 = true := upd_eq
          simp only [hei, cond_true, cond_false]
          apply old; rfl; rfl; apply List.Mem.tail; apply List.Mem.tail; apply List.Mem.tail; apply List.Mem.tail; exact .tail _ (.tail _ (.head _)); rfl; rfl
          apply OL.nil
          exact At.beside z (by repeat (first | exact Sub.nil | apply Sub.cons rfl | refine Sub.cons_eq rfl (by simp only [v0, cond_true, cond_false]) ?_)) (fun w' hw' => by first | exact hw' | (simp only [v0, cond_true, cond_false]; exact hw'))
        · cases ho
          have v1 : Eng.upd e 1 1 = true := upd_eq
          simp only [hei, cond_true, cond_false]
          apply omv; rfl; rfl
          apply OL.nil
          exact At.beside z (by repeat (first | exact Sub.nil | apply Sub.cons rfl | refine Sub.cons_eq rfl (by simp only [v1, cond_true, cond_false]) ?_)) (fun w' hw' => by first | exact hw' | (simp only [v1, cond_true, cond_false]; exact hw'))
        · cases ho
          have v2 : Eng.upd e 2 2 = true := upd_eq
          simp only [hei, cond_true, cond_false]
          apply old; rfl; rfl; apply List.Mem.tail; apply List.Mem.tail; apply List.Mem.tail; apply List.Mem.tail; exact .tail _ (.tail _ (.head _)); rfl; rfl
          apply OL.nil
          exact At.beside z (by repeat (first | exact Sub.nil | apply Sub.cons rfl | refine Sub.cons_eq rfl (by simp only [v2, cond_true, cond_false]) ?_)) (fun w' hw' => by first | exact hw' | (simp only [v2, cond_true, cond_false]; exact hw'))
        · cases ho
          have v3 : Eng.upd e 3 3 = true := upd_eq
          simp only [hei, cond_true, cond_false]
          apply omv; rfl; rfl
          apply OL.nil
          exact At.beside z (by repeat (first | exact Sub.nil | apply Sub.cons rfl | refine Sub.cons_eq rfl (by simp only [v3, cond_true, cond_false]) ?_)) (fun w' hw' => by first | exact hw' | (simp only [v3, cond_true, cond_false]; exact hw'))
        · cases ho
          have h2 : e 2 = true := hd ⟨2, .data⟩ (by simp) rfl
          have h3 : e 3 = true := hd ⟨3, .data⟩ (by simp) rfl
          have v4 : Eng.upd e 4 4 = true := upd_eq
          have v2 : Eng.upd e 4 2 = true := upd_mono h2
          have v3 : Eng.upd e 4 3 = true := upd_mono h3
          simp only [hei, h2, h3, cond_true, cond_false]
          apply oop; rfl; apply Pev.idxB; rfl; exact yes; rfl; exact yes; rfl; intro hcond; omega; rfl
          apply OL.nil
          exact At.beside z (by repeat (first | exact Sub.nil | apply Sub.cons rfl | refine Sub.cons_eq rfl (by simp only [v4, v2, v3, cond_true, cond_false]) ?_)) (fun w' hw' => by first | exact hw' | (simp only [v4, v2, v3, cond_true, cond_false]; exact hw'))
        · cases ho
          have h4 : e 4 = true := hd ⟨4, .data⟩ (by simp) rfl
          have h14 : e 14 = false := hcl.not (i := 5) (j := 14) rfl hei (by kernel_rfl)
          have v5 : Eng.upd e 5 5 = true := upd_eq
          have v4 : Eng.upd e 5 4 = true := upd_mono h4
          have v14 : Eng.upd e 5 14 = false := h14
          simp only [hei, h4, h14, cond_true, cond_false]
          apply oop; rfl; apply Pev.load_blk; rfl; exact yes; apply List.Mem.tail; apply List.Mem.tail; apply List.Mem.tail; apply List.Mem.tail; apply List.Mem.tail; exact .tail _ (.tail _ (.head _)); rfl; assumption
          apply OL.nil
          exact At.beside z (by repeat (first | exact Sub.nil | apply Sub.cons rfl | refine Sub.cons_eq rfl (by simp only [v5, v4, v14, cond_true, cond_false]) ?_)) (fun w' hw' => by first | exact hw' | (simp only [v5, v4, v14, cond_true, cond_false]; exact hw'))
        · cases ho
          have v6 : Eng.upd e 6 6 = true := upd_eq
          simp only [hei, cond_true, cond_false]
          apply omv; rfl; rfl
          apply OL.nil
          exact At.beside z (by repeat (first | exact Sub.nil | apply Sub.cons rfl | refine Sub.cons_eq rfl (by simp only [v6, cond_true, cond_false]) ?_)) (fun w' hw' => by first | exact hw' | (simp only [v6, cond_true, cond_false]; exact hw'))
        · cases ho
          have v7 : Eng.upd e 7 7 = true := upd_eq
          simp only [hei, cond_true, cond_false]
          apply old; rfl; rfl; apply List.Mem.tail; apply List.Mem.tail; apply List.Mem.tail; exact .tail _ (.tail _ (.head _)); rfl; rfl
          apply OL.nil
          exact At.beside z (by repeat (first | exact Sub.nil | apply Sub.cons rfl | refine Sub.cons_eq rfl (by simp only [v7, cond_true, cond_false]) ?_)) (fun w' hw' => by first | exact hw' | (simp only [v7, cond_true, cond_false]; exact hw'))
        · cases ho
          have v8 : Eng.upd e 8 8 = true := upd_eq
          simp only [hei, cond_true, cond_false]
          apply omv; rfl; rfl
          apply OL.nil
          exact At.beside z (by repeat (first | exact Sub.nil | apply Sub.cons rfl | refine Sub.cons_eq rfl (by simp only [v8, cond_true, cond_false]) ?_)) (fun w' hw' => by first | exact hw' | (simp only [v8, cond_true, cond_false]; exact hw'))
        · cases ho
          have v9 : Eng.upd e 9 9 = true := upd_eq
          simp only [hei, cond_true, cond_false]
          apply omv; rfl; rfl
          apply OL.nil
          exact At.beside z (by repeat (first | exact Sub.nil | apply Sub.cons rfl | refine Sub.cons_eq rfl (by simp only [v9, cond_true, cond_false]) ?_)) (fun w' hw' => by first | exact hw' | (simp only [v9, cond_true, cond_false]; exact hw'))
        · cases ho
          have h6 : e 6 = true := hd ⟨6, .data⟩ (by simp) rfl
          have h7 : e 7 = true := hd ⟨7, .data⟩ (by simp) rfl
          have h8 : e 8 = true := hd ⟨8, .data⟩ (by simp) rfl
          have h9 : e 9 = true := hd ⟨9, .data⟩ (by simp) rfl
          have v10 : Eng.upd e 10 10 = true := upd_eq
          have v6 : Eng.upd e 10 6 = true := upd_mono h6
          have v7 : Eng.upd e 10 7 = true := upd_mono h7
          have v8 : Eng.upd e 10 8 = true := upd_mono h8
          have v9 : Eng.upd e 10 9 = true := upd_mono h9
          simp only [hei, h6, h7, h8, h9, cond_true, cond_false]
          apply oop; rfl; apply Pev.build; rfl; exact CellsL.agg; rfl; exact Fill.au; rfl
          apply OL.nil
          exact At.beside z (by repeat (first | exact Sub.nil | apply Sub.cons rfl | refine Sub.cons_eq rfl (by simp only [v10, v6, v7, v8, v9, cond_true, cond_false]) ?_)) (fun w' hw' => by first | exact hw' | (simp only [v10, v6, v7, v8, v9, cond_true, cond_false]; exact hw'))
        · cases ho
          have h10 : e 10 = true := hd ⟨10, .data⟩ (by simp) rfl
          have v11 : Eng.upd e 11 11 = true := upd_eq
          have v10 : Eng.upd e 11 10 = true := upd_mono h10
          simp only [hei, h10, cond_true, cond_false]
          apply OL.buildSlice; rfl; rfl; rfl; exact Elems.au; rfl; rfl; intro bk hbk
          apply OL.nil
          exact At.beside { z with b1 := bk, hb1 := hbk } (by repeat (first | exact Sub.nil | apply Sub.cons rfl | refine Sub.cons_eq rfl (by simp only [v11, v10, cond_true, cond_false]) ?_)) (fun w' hw' => by simp only [v11, v10, cond_true, cond_false]; exact Cls.fill (p := 8) (H := _ :: _ :: _ :: _ :: _ :: _ :: _ :: _ :: _ :: []) (.s (.s (.s (.s (.s (.s (.s (.s .z)))))))) hw')
        · cases ho
          have h5 : e 5 = true := hd ⟨5, .data⟩ (by simp) rfl
          have h11 : e 11 = true := hd ⟨11, .data⟩ (by simp) rfl
          have h14 : e 14 = false := hcl.not (i := 12) (j := 14) rfl hei (by kernel_rfl)
          have v12 : Eng.upd e 12 12 = true := upd_eq
          have v5 : Eng.upd e 12 5 = true := upd_mono h5
          have v11 : Eng.upd e 12 11 = true := upd_mono h11
          have v14 : Eng.upd e 12 14 = false := h14
          simp only [hei, h5, h11, h14, cond_true, cond_false]
          apply OL.append; rfl; rfl; rfl; rfl; exact Hole.au; apply List.Mem.tail; apply List.Mem.tail; apply List.Mem.tail; apply List.Mem.tail; apply List.Mem.tail; apply List.Mem.tail; exact .tail _ (.tail _ (.head _)); exact Take.au; rfl; rfl; assumption; omega; intro O1 g1 cap1
          apply OL.nil
          exact At.beside { z with g1 := g1, c1 := cap1, O1 := O1 } (by repeat (first | exact Sub.nil | apply Sub.cons rfl | refine Sub.cons_eq rfl (by simp only [v12, v5, v11, v14, cond_true, cond_false]) ?_)) (fun w' hw' => by first | exact hw' | (simp only [v12, v5, v11, v14, cond_true, cond_false]; exact hw'))
        · cases ho
          have h0 : e 0 = true := hd ⟨0, .data⟩ (by simp) rfl
          have h1 : e 1 = true := hd ⟨1, .data⟩ (by simp) rfl
          have v13 : Eng.upd e 13 13 = true := upd_eq
          have v0 : Eng.upd e 13 0 = true := upd_mono h0
          have v1 : Eng.upd e 13 1 = true := upd_mono h1
          simp only [hei, h0, h1, cond_true, cond_false]
          apply oop; rfl; apply Pev.idxB; rfl; exact yes; rfl; exact yes; rfl; intro hcond; omega; rfl
          apply OL.nil
          exact At.beside z (by repeat (first | exact Sub.nil | apply Sub.cons rfl | refine Sub.cons_eq rfl (by simp only [v13, v0, v1, cond_true, cond_false]) ?_)) (fun w' hw' => by first | exact hw' | (simp only [v13, v0, v1, cond_true, cond_false]; exact hw'))
        · cases ho
          have h12 : e 12 = true := hd ⟨12, .data⟩ (by simp) rfl
          have h13 : e 13 = true := hd ⟨13, .data⟩ (by simp) rfl
          have v14 : Eng.upd e 14 14 = true := upd_eq
          have v12 : Eng.upd e 14 12 = true := upd_mono h12
          have v13 : Eng.upd e 14 13 = true := upd_mono h13
          simp only [hei, h12, h13, cond_true, cond_false]
          apply OL.storeI
          rfl
          rfl
          rfl
          rfl
          rfl
          exact Swap.au
          · rw [List.length_map]; omega
          apply OL.nil
          exact At.beside z (by repeat (first | exact Sub.nil | apply Sub.cons rfl | refine Sub.cons_eq rfl (by simp only [v14, v12, v13, cond_true, cond_false]) ?_)) (fun w' hw' => by first | exact hw' | (simp only [v14, v12, v13, cond_true, cond_false]; exact hw'))
      · intro z e hall
        obtain ⟨b1, hb1, g1, c1, O1, old⟩ := z
        simp only [hall 0 (by decide), hall 1 (by decide), hall 2 (by decide), hall 3 (by decide), hall 4 (by decide), hall 5 (by decide), hall 6 (by decide), hall 7 (by decide), hall 8 (by decide), hall 9 (by decide), hall 10 (by decide), hall 11 (by decide), hall 12 (by decide), hall 13 (by decide), hall 14 (by decide), cond_true, cond_false]
        rw [show (M.map slC).set (0 + (v : Int).toNat * 1) (.slice (some ⟨g1, 0, none⟩) (r.m + 1) c1) = (M.set v ⟨O1, some ⟨g1, 0, none⟩, r.m + 1, c1, cat rgC (stepR v k n (f v))⟩).map slC by rw [List.map_set, show 0 + (v : Int).toNat * 1 = v by omega]; rfl]
        rw [show cat rgC (f v) ++ [.int .i64 (v : Int), .int .i64 (k : Int), .int .i64 (n : Int), .int .i64 (n : Int)] = cat rgC (stepR v k n (f v)) by rw [hst, cat_append]; rfl]
        with_reducible apply At.in_normal
        with_reducible apply At.next
        apply W.reg
        apply obn; rfl; rfl; rfl; apply Bin.add_in; omega
        apply omv; rfl; rfl
        apply OL.nil
        have hln : r.m + 1 = (stepR v k n (f v)).length := by rw [hst, hrm]; simp
        refine At.fact (fun w' hw' => (hback (O1 := O1) (q1 := some ⟨g1, 0, none⟩) (m1 := r.m + 1) (c1 := c1) (w' := w') hln (hw'.thin (.keep (.keep (.keep (.keep (.keep (.keep (.keep (.keep (.any (fun k hk => by rw [show k = b1 from hk]; exact hb1) Thin.nil))))))))))).1) (fun hRg => ?_)
        exact At.again (j + 1, M.set v ⟨O1, some ⟨g1, 0, none⟩, r.m + 1, c1, cat rgC (stepR v k n (f v))⟩) ⟨by simp only; omega, hRg⟩ (by simp only; omega) (by exact Sub.au) (fun w' hw' => (hback (O1 := O1) (q1 := some ⟨g1, 0, none⟩) (m1 := r.m + 1) (c1 := c1) (w' := w') hln (hw'.thin (.keep (.keep (.keep (.keep (.keep (.keep (.keep (.keep (.any (fun k hk => by rw [show k = b1 from hk]; exact hb1) Thin.nil))))))))))).2)
  · obtain rfl : j = l.length := by omega
    refine W.xt ?_
    refine At.end_ (At.fin0 rfl (fun w' hw' => ⟨M, rfl, hM.congr fun v hv => ?_, ?_⟩))
    · rw [List.take_length, ← hl]
      by_cases e : s.getD v false = true
      · rw [if_pos e, if_pos (onK_mem.2 ⟨hv, e⟩)]
      · rw [if_neg e, if_neg (fun h => e (onK_mem.1 h).2)]
    · have h1 : Cls [rws B0 44 4 (fun j => M[j]?), row B O (some ⟨g, 0, none⟩) m c 4 1 (bls s), X, blk b8 3 [.int .i64 (k : Int)], blk b7 94 [.slice (some ⟨bP, 0, none⟩) m m], blk bP 30 (M.map slC)] S w' := hw'.thin (.keep (.any (fun k hk => AllLe.of fun s hs => Nat.le_trans (hBl.mem s hs) hk.1) Thin.same))
      exact h1.p6b
end Go.Proofs.Ytehelljmaiophaa.ss

/- The walk of live's Ranges. Conditions: none. -/
namespace Go.Ss
open Go.Eng Go.RowKit
set_option linter.unusedVariables false
set_option linter.unusedSimpArgs false
theorem rg_flat {f : Nat → List Rg} : ∀ (L : List Rw) (o : Nat), (∀ (v : Nat) r, L[v]? = some r → r.xs = cat rgC (f (o + v)) ∧ r.m = (f (o + v)).length) → L.flatMap Rw.xs = cat rgC ((List.range' o L.length).flatMap f) ∧ cntR L = ((List.range' o L.length).flatMap f).length
  | [], o, h => ⟨rfl, rfl⟩
  | r :: L, o, h => by
    have h0 := h 0 r rfl
    obtain ⟨h1, h2⟩ := rg_flat L (o + 1) (fun v s hs => by
      have := h (v + 1) s (by simpa using hs)
      rwa [show o + (v + 1) = o + 1 + v by omega] at this)
    refine ⟨?_, ?_⟩
    · rw [List.flatMap_cons, h1, List.length_cons, List.range'_succ, List.flatMap_cons, cat_append, h0.1]
      rfl
    · rw [List.length_cons, List.range'_succ, List.flatMap_cons, List.length_append, ← h2]
      unfold cntR
      rw [List.map_cons, List.sum_cons, h0.2]
      rfl
theorem RgOf.flat {L : List Rw} {m : Nat} {f : Nat → List Rg} (h : RgOf L m f) : L.flatMap Rw.xs = cat rgC ((List.range m).flatMap f) ∧ cntR L = ((List.range m).flatMap f).length := by
  have := rg_flat (f := f) L 0 (fun v r hr => by rw [Nat.zero_add]; exact h.2 v r hr)
  rw [h.1] at this
  rw [List.range_eq_range']
  exact this
theorem flat_lenM {f : Nat → List Rg} {K : Nat} (h : ∀ v, (f v).length ≤ K) : ∀ (l : List Nat), (l.flatMap f).length ≤ l.length * K
  | [] => by simp
  | v :: l => by
    have := flat_lenM h l
    have := h v
    rw [List.flatMap_cons, List.length_append, List.length_cons, Nat.succ_mul]
    omega
/-- all parts of all lives -/
noncomputable def rangesL (bs : List Bk) (m : Nat) : List Rg := (List.range m).flatMap fun v => partsT bs v bs.length
end Go.Ss
namespace Go.Proofs.Ytehelljmaiophaa.ss
set_option maxRecDepth 100000
open Go.Eng Go.RowKit Go.Ss
set_option linter.unusedVariables false
set_option linter.unusedSimpArgs false
theorem Ranges_calls (fn : Go.Ss.Fn) (y : FnY) (w : World) (hfn : FnOk w (low w) fn y) :
    Calls Try.prog 15 [.agg (fnC fn y).toArray].toArray w fun e w' => Ext w w' ∧ ((funcE fn ≠ 0 ∧ e = .returned (.tuple #[.slice none 0 0, .int .i64 (funcE fn)])) ∨
      (funcE fn = 0 ∧ ∃ (q : Option Addr) (c : Nat), e = .returned (.tuple #[.slice q (rangesL fn.blocks ((freshF fn.blocks).toNat + 1)).length c, .int .i64 0]) ∧ SlAt w' w'.heap.size q (cat rgC (rangesL fn.blocks ((freshF fn.blocks).toNat + 1))))) := by
  obtain ⟨er, her⟩ : ∃ er, funcE fn = er := ⟨_, rfl⟩
  rw [her]
  have hfn0 := hfn
  refine enter Try.func15 rfl Try.ntmps15 rfl (Cls.start w) ?_
  (simp only [argEnv, Nat.zero_add, Nat.reduceAdd])
  obtain ⟨es, hes, he⟩ := hfn.b
  obtain ⟨nm, bs⟩ := fn
  obtain ⟨q, cap⟩ := y
  simp only at hes he
  have hbl2 : es.length = bs.length := by rw [← hes, List.length_map]
  simp only [fnC]
  have hF : ∀ (H : List Eng.Item) (S : List World) (w2 : World), Cls H S w2 → w ∈ S → (∀ k, k < w.heap.size → NotOwned H k) → FnOk w2 (low w2) ⟨nm, bs⟩ ⟨q, cap⟩ := fun H S w2 hw2 hs hno => fnR.mono (hw2.up hs) (fnR.stab (hw2.same hs hno) hfn0)
  have hBu := fun w2 (H : List Eng.Item) (S : List World) hw2 hs hno => build_calls ⟨nm, bs⟩ ⟨q, cap⟩ w2 (hF H S w2 hw2 hs hno)
  simp only [fnC, her] at hBu
  apply W.sr
  apply OL.box; rfl; rfl; exact CellsL.agg; (intro bk hbk; simp only [AllLe, and_true] at hbk)
  apply oas; rfl; rfl
  apply oas; rfl; rfl
  apply OL.nsr
  apply oop; rfl; apply Pev.load_blkA; rfl; exact yes; exact .head _; rfl; exact Take.au
  revert bk
  intro b3 hb3x
  have hb3 : w.heap.size ≤ b3 := by first | exact hb3x | exact hb3x.1
  refine OL.frz (C' := fun w0 => Cls [] [w0, w]) (fun w0 hc0 => (hc0.thin (.any (fun k hk => by rw [show k = b3 from hk]; exact ⟨hb3, trivial⟩) Thin.nil)).note) (fun w0 hc0 => ?_)
  have hw0 : w.heap.size ≤ w0.heap.size := (hc0.kp w (.head _)).size
  have hi3 := hc0.item (i := blk b3 24 [.int .i64 nm, .slice q bs.length cap]) (by exact mau)
  have hb30 := blk_lt hi3
  have hc3 : CellsAt w0 ⟨b3, 0, none⟩ [.int .i64 nm, .slice q bs.length cap] := fun j v hj => by rw [add_mid, blk_cell hi3, Nat.zero_add]; exact hj
  have hc31 : w0.cell? ⟨b3, 0 + 1, none⟩ = some (.slice q bs.length cap) := hc3 1 _ rfl
  skip
  by_cases hne : er ≠ 0
  · (((first | (with_reducible apply OL.op) | (with_reducible apply QL.op)); (exact Guard.au); rfl; rfl); (exact Pev.call (v := .tuple #[.pointer none, .slice none 0 0, .int .i64 er]) rfl (by exact Args.au) (fun _ w2 hw2 => (hBu w2 _ _ hw2 (by exact mau) (fun k hk => NotOwned.nil)).mono (fun e w3 h => ⟨by rcases h.2 with h2 | h2; exact h2.2; exact absurd h2.1 hne, hw2.ext h.1⟩))))
    apply omv; rfl; rfl
    apply oex; rfl; rfl; rfl
    apply oex; rfl; rfl; rfl
    apply oex; rfl; rfl; rfl
    apply oas; rfl; rfl
    apply oas; rfl; rfl
    apply oas; rfl; rfl
    apply OL.nx
    apply W.seq
    apply W.sr
    apply omv; rfl; rfl
    apply obn; rfl; rfl; rfl; apply Bin.neq
    apply OL.nx
    refine W.cond rfl (fun _ => ?_) (fun h => by simp at h; exact absurd h hne)
    apply W.sr
    apply omv; rfl; rfl
    apply oas; rfl; rfl
    apply oas; rfl; rfl
    apply OL.nx
    refine W.rt ?_
    ((with_reducible apply At.fin2); rfl; rfl; rfl; intro w' hw')
    exact ⟨hw'.fr (by exact mau) (fun k hk => NotOwned.nil), .inl ⟨hne, rfl⟩⟩
  have he0 : er = 0 := Classical.not_not.1 hne
  subst he0
  obtain ⟨h0, h128, hs0⟩ := func_zero her
  simp only at h0 h128 hs0
  obtain ⟨m, hm⟩ : ∃ m, (freshF bs).toNat + 1 = m := ⟨_, rfl⟩
  obtain ⟨hfr0, hfr1, hfrd⟩ := fresh_bounds hs0
  have hbd := bnd_of her (m := m) (by omega)
  simp only [hm] at hBu ⊢
  have hm0 : 0 < m := by omega
  have hm1 : m ≤ 1000000 := by omega
  refine OL.callE (α := (Nat × Nat × Nat × List (List Bool × Sc) × List (List Bool × Sc)) × World) (fun z => .tuple #[.pointer (some ⟨z.1.1, 0, none⟩), .slice (some ⟨z.1.2.2.1, 0, none⟩) bs.length bs.length, .int .i64 0]) (fun z => Ext w z.2 ∧ Ext w0 z.2 ∧ Built z.2 ⟨nm, bs⟩ ⟨q, cap⟩ m z.1.1 z.1.2.1 z.1.2.2.1 z.1.2.2.2.1 z.1.2.2.2.2) (fun z => Cls [] [z.2, w0, w]) rfl rfl (by exact Args.au) (fun w2 hw2 => (hBu w2 _ _ hw2 (by exact mau) (fun k hk => NotOwned.nil)).mono fun e w3 ⟨h2, h3⟩ => ?_) ?_
  · rcases h3 with ⟨h3, _⟩ | ⟨_, bL, bB, bF, B, F, h4, h5⟩
    · exact absurd rfl h3
    · have hx := hw2.ext h2
      exact ⟨((bL, bB, bF, B, F), w3), h4, ⟨hx.toExt (by exact mau) (fun k hk => NotOwned.nil), hx.toExt (by exact mau) (fun k hk => NotOwned.nil), h5⟩, hx.note⟩
  rintro ⟨⟨bL, bB, bF, B, F⟩, wB⟩ ⟨hxB, hx0B, hbu⟩
  simp only at hxB hx0B hbu ⊢
  have hw0B := hx0B.size
  have hwB := hxB.size
  have heB := he.ext hxB
  have hBl : B.length = bs.length := by have := hbu.st.bl; simpa using this
  have hSSB : ∀ s ∈ [wB, w0, w], s.heap.size ≤ wB.heap.size := fun s hs => by
    simp only [List.mem_cons, List.not_mem_nil, or_false] at hs
    rcases hs with rfl | rfl | rfl
    · exact Nat.le_refl _
    · exact hw0B
    · exact hwB
  have hLim : ∀ x, wB.heap.size ≤ x → AllLe [wB, w0, w] x := fun x hx => ⟨hx, Nat.le_trans hw0B hx, Nat.le_trans hwB hx, trivial⟩
  have hLife := hbu.life
  simp only [← hbl2] at hLife
  apply omv; rfl; rfl
  apply oex; rfl; rfl; rfl
  apply oex; rfl; rfl; rfl
  apply oex; rfl; rfl; rfl
  apply oas; rfl; rfl
  apply oas; rfl; rfl
  apply oas; rfl; rfl
  apply OL.nx
  apply W.seq
  apply W.sr
  apply omv; rfl; rfl
  apply obn; rfl; rfl; rfl; apply Bin.neq
  apply OL.nx
  refine W.cond rfl (fun h => by simp at h) (fun _ => ?_)
  have hL0 : bL < wB.heap.size := blk_lt hbu.life
  have hLc : CellsAt wB ⟨bL, 0, none⟩ [.int .i64 nm, .slice q bs.length cap, .int .i64 (m : Int), .slice (some ⟨bB, 0, none⟩) bs.length bs.length] := fun j v hj => by rw [add_mid, blk_cell hbu.life, Nat.zero_add]; exact hj
  have hLc2 : wB.cell? ⟨bL, 0 + 2, none⟩ = some (.int .i64 (m : Int)) := hLc 2 _ rfl
  apply W.sk
  apply W.sr
  apply omv; rfl; rfl
  apply oop; rfl; apply Pev.nil_ptr; rfl; exact yes
  apply ofa; rfl; rfl; rfl
  apply oop; rfl; apply Pev.load_kept; rfl; exact yes; exact .head _; rfl; intro hcond; assumption; intro hcond; assumption; intro hcond; exact NotOwned.au
  apply OL.makeSlice; rfl; rfl; rfl; rfl; rfl; rfl; rfl; omega; (intro bk hbk; simp only [AllLe, and_true] at hbk)
  apply OL.alloc; rfl; rfl; exact CellsL.one rfl; (intro bk hbk; simp only [AllLe, and_true] at hbk)
  apply OL.storeB; rfl; rfl; exact CellsL.one rfl; rfl; rfl; rfl; exact Swap.au; exact Put.au
  apply OL.nx
  apply W.seq
  apply W.sr
  apply ofa; rfl; rfl; rfl
  apply oop; rfl; apply Pev.load_kept; rfl; exact yes; exact .tail _ (.head _); rfl; intro hcond; assumption; intro hcond; assumption; intro hcond; exact NotOwned.au
  apply oop; rfl; apply Pev.len_slice; rfl; exact yes; rfl
  apply omv; rfl; rfl
  apply OL.nx
  apply W.block
  rename_i bP hbP
  revert bk
  intro b7 hb7
  have hbP1 : wB.heap.size ≤ bP := by first | exact hbP.1 | exact hbP
  have hb71 : wB.heap.size ≤ b7 := by first | exact hb7.1 | exact hb7
  rw [slC_zero]
  refine W.loop (G := Nat × List Rw) (fun z => z.1 ≤ bs.length ∧ RgOf z.2 m (fun v => partsT bs v z.1)) (fun z => bs.length - z.1)
    (fun z => [(4, true, .pointer (some ⟨bL, 0, none⟩)), (7, true, .pointer (some ⟨b7, 0, none⟩)), (25, true, .int .i64 (bs.length : Int)), (26, true, .int .i64 (z.1 : Int))])
    (fun z => Cls [blk b7 94 [.slice (some ⟨bP, 0, none⟩) m m], blk bP 30 (z.2.map slC), rws wB.heap.size 44 4 (fun j => z.2[j]?)] [wB, w0, w])
    (0, List.replicate m ⟨fun _ => False, none, 0, 0, []⟩) ⟨by simp, by simp, fun v r hr => by rw [(List.mem_replicate.1 (List.mem_of_getElem? hr)).2]; exact ⟨rfl, rfl⟩⟩ (by exact Sub.au) (fun w' hw' => (hw'.rws_new wB.heap.size 44 4 m).p3a) ?_
  rintro ⟨k, L⟩ ⟨hk, hL⟩
  simp only at hk hL ⊢
  apply W.sr
  apply obn; rfl; rfl; rfl; apply Bin.lss
  apply OL.nx
  apply W.seq
  (refine W.cnd (fun hlt => ?_) (fun hlt => ?_)) <;> (try (exfalso; first | omega | exact hlt trivial | contradiction))
  · have hkl : k < es.length := by omega
    obtain ⟨b, hkb⟩ : ∃ b, bs[k]? = some b := ⟨_, List.getElem?_eq_getElem (by omega)⟩
    have hgb : bs.getD k noB = b := by rw [List.getD_eq_getElem?_getD, hkb]; rfl
    obtain ⟨pB, hpB⟩ : ∃ p, B[k]? = some p := ⟨_, List.getElem?_eq_getElem (by omega)⟩
    obtain ⟨hpBl, hpBo⟩ := hbu.bo pB (List.mem_of_getElem? hpB)
    have hon : ∀ (n v : Nat), n ≤ b.ins.length → ((backS (b.ins.drop n) pB.1).getD v false = liveB bs (v : Int) k n) := fun n v hn => by
      have h1 := hbu.live hbd hkb hpB hn v
      rw [on_getD, ← liveB_iff] at h1
      cases hx : (backS (b.ins.drop n) pB.1).getD v false <;> cases hy : liveB bs (v : Int) k n <;> simp_all
    apply W.sk
    apply W.sb
    apply W.sr
    apply omv; rfl; rfl
    apply OL.alloc; rfl; rfl; exact CellsL.one rfl; (intro bk hbk; simp only [AllLe, and_true] at hbk)
    apply OL.storeB; rfl; rfl; exact CellsL.one rfl; rfl; rfl; rfl; exact Swap.au; exact Put.au
    apply OL.nx
    apply W.reg
    apply omv; rfl; rfl
    apply old; rfl; rfl; exact .head _; rfl; rfl
    apply oop; rfl; apply Pev.makeFunc; exact Args.au; exact Args.au
    revert bk
    intro b8 hb8
    have hb81 : wB.heap.size ≤ b8 := by first | exact hb8.1 | exact hb8
    have hBk := back_calls wB es q cap nm bL bB m k B pB heB hkl (by rw [hes]; exact hbd) hm1 hm0 hLife hbu.b hpB hpBl hpBo [wB, w0, w] (.head _) hSSB (fun L : List Rw => [blk b8 3 [.int .i64 (k : Int)], blk b7 94 [.slice (some ⟨bP, 0, none⟩) m m], blk bP 30 (L.map slC), rws wB.heap.size 44 4 (fun j => L[j]?)])
      (fun n' L => RgOf L m (fun v => partsN bs v k n')) L 62 [] [.pointer (some ⟨b7, 0, none⟩), .pointer (some ⟨b8, 0, none⟩)] rfl
    simp only [hes, hgb] at hBk
    have hBk2 := hBk (hL.congr fun v _ => partsN_end (by rw [hgb]; omega)) (fun x k hk => NotOwned.blk (by omega) (NotOwned.blk (by omega) (NotOwned.blk (by omega) (NotOwned.rws hk NotOwned.nil)))) (fun n L1 B' O' g' c' X w' hn hx hB' hX hw' => by
      refine (Ran1_calls n k m bP b7 b8 wB.heap.size B' c' g' O' _ L1 (fun v => partsN bs v k (n + 1)) X [wB, w0, w] w' (by rw [backS_length, hpBl]) hm1 hx (fun v => by have := partsN_len (bs := bs) (v := v) (k := k) (n := n + 1); omega) hB' ⟨wB, .head _, Nat.le_refl _⟩ hw').mono fun e w'' ⟨L', h1, h2, h3⟩ => ⟨L', h1, h2.congr fun v hv => ?_, h3⟩
      rw [partsN_step (by rw [hgb]; exact hn), hon n v hn])
    skip
    refine OL.callE (α := Value × List Rw) (fun z => z.1) (fun z => RgOf z.2 m (fun v => partsN bs v k 0)) (fun z => Cls [blk b8 3 [.int .i64 (k : Int)], blk b7 94 [.slice (some ⟨bP, 0, none⟩) m m], blk bP 30 (z.2.map slC), rws wB.heap.size 44 4 (fun j => z.2[j]?)] [wB, w0, w]) rfl rfl (by exact Args.au) (fun w2 hw2 => (hBk2 w2 hw2).mono fun e w3 ⟨vv, x', h1, h2, h3⟩ => ⟨(vv, x'), h1, h2, h3⟩) ?_
    rintro ⟨vv, L'⟩ hx'
    simp only at hx' ⊢
    apply OL.nil
    with_reducible apply At.in_normal
    with_reducible apply At.next
    apply W.reg
    apply obn; rfl; rfl; rfl; apply Bin.add_in; omega
    apply omv; rfl; rfl
    apply OL.nil
    exact At.again (k + 1, L') ⟨by simp only; omega, hx'.congr fun v _ => partsN_zero.symm⟩ (by simp only; omega) (by exact Sub.au) (fun w' hw' => hw'.thin (.any (fun k hk => by rw [show k = b8 from hk]; exact hLim _ hb81) Thin.same))
  · obtain rfl : k = bs.length := by omega
    obtain ⟨hf1, hf2⟩ := hL.flat
    have hR : ((List.range m).flatMap fun v => partsT bs v bs.length) = rangesL bs m := rfl
    rw [hR] at hf1 hf2
    have hcb : cntR L ≤ 1000000000 := by
      have h1 := flat_lenM (f := fun v => partsT bs v bs.length) (K := 128) (fun v => by have := partsT_len (bs := bs) (v := v) (k := bs.length); omega) (List.range m)
      rw [hR, ← hf2, List.length_range] at h1
      omega
    have hCo := fun w2 (hw2 : Cls [blk b7 94 [.slice (some ⟨bP, 0, none⟩) m m], blk bP 30 (L.map slC), rws wB.heap.size 44 4 (fun j => L[j]?)] [wB, w0, w] w2) => Concat_calls bP L w2 (hw2.item (by exact mau)) (fun r hr => by
      obtain ⟨v, hv⟩ := List.getElem?_of_mem hr
      have h1 := (hw2.item (i := rws wB.heap.size 44 4 (fun j => L[j]?)) (by exact mau)).1 v r hv
      obtain ⟨h2, h3⟩ := hL.2 v r hv
      exact ⟨SlAt.of_row h1, by rw [h2, cat_length rgC_len, h3], by rw [h2]; exact rgC_one _⟩) (by rw [hL.1]; omega) hcb
    rw [hL.1, hf1, hf2] at hCo
    refine W.xt ?_
    with_reducible apply At.next
    apply W.sr
    apply old; rfl; rfl; exact .head _; rfl; rfl
    refine OL.callE (α := ((Nat → Prop) × Option Addr × Nat) × Nat) (fun z => .slice z.1.2.1 (rangesL bs m).length z.1.2.2) (fun z => wB.heap.size ≤ z.2) (fun z => Cls [row z.2 z.1.1 z.1.2.1 (rangesL bs m).length z.1.2.2 44 4 (cat rgC (rangesL bs m)), blk b7 94 [.slice (some ⟨bP, 0, none⟩) m m], blk bP 30 (L.map slC), rws wB.heap.size 44 4 (fun j => L[j]?)] [wB, w0, w]) rfl rfl (by exact Args.au) (fun w2 hw2 => (hCo w2 hw2).mono fun e w3 ⟨O', q', c', h1, h2⟩ => ⟨((O', q', c'), w2.heap.size), h1, (hw2.kp wB (.head _)).size, hw2.plusD h2 (.head _) (fun k hk => hk.1)⟩) ?_
    rintro ⟨⟨Oc, qc, cc⟩, Bc⟩ hBc
    simp only at hBc ⊢
    apply oas; rfl; rfl
    apply oas; rfl; rfl
    apply OL.nx
    apply W.ret
    ((with_reducible apply At.fin2); rfl; rfl; rfl; intro w' hw')
    exact ⟨hw'.toExt (by exact mau) (fun k hk => NotOwned.row (by omega) (NotOwned.blk (by omega) (NotOwned.blk (by omega) (NotOwned.rws (by omega) NotOwned.nil)))), .inr ⟨by trivial, qc, cc, rfl, SlAt.of_row (hw'.item (.head _))⟩⟩
end Go.Proofs.Ytehelljmaiophaa.ss

/- A grown row that a function of the library writes over in place (a sort, a compaction). General. No condition. -/
namespace Go.Eng
open Go.RowKit Go.Sort
set_option linter.unusedVariables false
set_option linter.unusedSimpArgs false

theorem putCells_take {α : Type} [Inhabited α] (enc : α → Value) (d : Array α) (c : Array Value) (h : d.size ≤ c.size) : (putCells enc 0 d c).toList.take d.size = d.toList.map enc := by
  apply List.ext_getElem?
  intro j
  rw [List.getElem?_take, List.getElem?_map]
  by_cases hj : j < d.size
  · rw [if_pos hj, Array.getElem?_toList, Array.getElem?_toList]
    unfold putCells
    rw [Array.getElem?_mapIdx, Array.getElem?_eq_getElem (show j < c.size by omega), Array.getElem?_eq_getElem hj]
    simp only [Option.map_some]
    rw [if_pos ⟨Nat.zero_le _, by omega⟩, Nat.sub_zero, getElem!_pos d j hj]
  · rw [if_neg hj, Array.getElem?_toList, Array.getElem?_eq_none (by omega)]; rfl
theorem putRow_heap {α : Type} [Inhabited α] (enc : α → Value) (w : World) (n g : Nat) (d : Array α) (os : Array Obj) {cur : Array Value} {e : TypeId} {fr : Nat × Nat} (hg : w.heap[g]? = some (.cells cur e fr)) :
    (grow (putRow enc (Sort.ahead w n) g 0 d) os).heap[g]? = some (.cells (putCells enc 0 d cur) e fr) := by
  have hlt : g < w.heap.size := (Array.getElem?_eq_some_iff.1 hg).1
  show ((w.heap.modify g (onCells (putCells enc 0 d))) ++ os)[g]? = _
  rw [Array.getElem?_append_left (by simpa using hlt), Array.getElem?_modify, if_pos rfl, hg]
  rfl
theorem putRow_other {α : Type} [Inhabited α] (enc : α → Value) (w : World) (n g : Nat) (d : Array α) (os : Array Obj) {k : Nat} (hk : k < w.heap.size) (hne : k ≠ g) :
    (grow (putRow enc (Sort.ahead w n) g 0 d) os).heap[k]? = w.heap[k]? := by
  show ((w.heap.modify g (onCells (putCells enc 0 d))) ++ os)[k]? = _
  rw [Array.getElem?_append_left (by simpa using hk), Array.getElem?_modify, if_neg (fun e => hne e.symm)]
theorem putRow_size {α : Type} [Inhabited α] (enc : α → Value) (w : World) (n g : Nat) (d : Array α) (os : Array Obj) : w.heap.size ≤ (grow (putRow enc (Sort.ahead w n) g 0 d) os).heap.size := by
  show _ ≤ ((w.heap.modify g (onCells (putCells enc 0 d))) ++ os).size
  simp
theorem Cls.rowPut {α : Type} [Inhabited α] {enc : α → Value} {p : Nat} {H : List Eng.Item} {S : List World} {w w' : World} {base m cap g n : Nat} {O : Nat → Prop} {e : TypeId} {xs : List Value} {F : Eng.Item → List Eng.Item}
    (hh : Hole p H (row base O (some ⟨g, 0, none⟩) m cap e 1 xs) F) (h : Cls H S w) (d : Array α) (hd : d.size = m) {os : Array Obj} (hw : w' = grow (putRow enc (Sort.ahead w n) g 0 d) os) : Cls (F (row base O (some ⟨g, 0, none⟩) m cap e 1 (d.toList.map enc))) S w' := by
  subst hw
  obtain ⟨h1, h2⟩ := hh.eq
  rw [h2]
  have hi := h.holds _ (List.mem_of_getElem? h1)
  have hO : O g := hi.1 _ rfl
  rcases hi.2.2 with ⟨h3, _⟩ | ⟨g', cap', cur, h3, hb, hg, h4, h5, h6, h7⟩
  · cases h3
  simp only [Value.slice.injEq, Option.some.injEq, Addr.mk.injEq] at h3
  obtain ⟨⟨rfl, _⟩, _, rfl⟩ := h3
  refine h.turn p h1 ⟨rfl, rfl, rfl, putRow_size _ _ _ _ _ _, fun k hk hno => putRow_other _ _ _ _ _ _ hk fun e => hno (by subst e; exact ⟨hb, hO⟩)⟩ ?_ (fun k hk => ⟨.inl hk, Nat.lt_of_lt_of_le (h.lt _ (List.mem_of_getElem? h1) k hk) (putRow_size _ _ _ _ _ _)⟩) (fun k hk => hk)
  refine ⟨fun a ha => by cases ha; exact hO, by simp [hd], .inr ⟨g, cap, _, rfl, hb, putRow_heap enc w n g d os hg, h4, h5, ?_, ?_⟩⟩
  · simp only [putCells, Array.size_mapIdx]; exact h6
  · rw [Nat.mul_one, ← hd]
    exact putCells_take enc d cur (by omega)
/-- what the library's contracts on rows ask -/
theorem row_holds {α : Type} [Inhabited α] {enc : α → Value} {w : World} {base m cap g : Nat} {O : Nat → Prop} {e : TypeId} {d : Array α} (h : (row base O (some ⟨g, 0, none⟩) m cap e 1 (d.toList.map enc)).holds w) : Holds enc w g 0 d ∧ g < w.heap.size := by
  rcases h.2.2 with ⟨h3, _⟩ | ⟨g', cap', cur, h3, hb, hg, h4, h5, h6, h7⟩
  · cases h3
  simp only [Value.slice.injEq, Option.some.injEq, Addr.mk.injEq] at h3
  obtain ⟨⟨rfl, _⟩, _, rfl⟩ := h3
  refine ⟨fun j hj => ⟨?_, ?_⟩, (Array.getElem?_eq_some_iff.1 hg).1⟩
  · rw [Nat.zero_add]
    refine row_cell h ?_
    rw [List.getElem?_map, Array.getElem?_toList, Array.getElem?_eq_getElem hj, getElem!_pos d j hj]; rfl
  · simp [World.frozen?, hg]
end Go.Eng

/-
  DERIVED: THE SHELF's CONTRACTS AT THIS DUMP, IN PLAIN WORDS (tools/lay-plain.mjs out of 'YtehelljmaiophaaShelfD.lean', which tools/lay-shelf.mjs wrote): THE SAME DECLARATIONS UNDER THE SAME NAMES: 'import', 'namespace', 'open', 'def', 'theorem' AND NOTHING ELSE: no command of the shelf's: FOR A HAND-IN. Each laying: the table of numbers ('.._ren') and one theorem, a field a fact of the dump's own or the kernel's comparison; each contract: ONE APPLICATION.
-/
namespace Go.Proofs
open Go.Shelf
set_option linter.unusedVariables false
def Try.lays189_ren : Go.Shelf.Ren := ⟨fun | 189 => 85 | 125 => 126 | 257 => 125 | 128 => 159 | 129 => 160 | 294 => 151 | 295 => 152 | 296 => 153 | 297 => 154 | 298 => 155 | 299 => 156 | 216 => 134 | 300 => 157 | 301 => 158 | 328 => 174 | 329 => 175 | 330 => 176 | 331 => 177 | 332 => 178 | 215 => 162 | 343 => 186 | n => n, fun | 28 => 35 | 3 => 3 | 46 => 181 | 0 => 0 | 51 => 217 | 53 => 172 | 4 => 4 | 183 => 212 | 182 => 211 | 131 => 147 | 5 => 5 | 9 => 9 | 218 => 227 | 222 => 231 | 228 => 236 | 229 => 237 | n => n, fun | n => n⟩
theorem Try.lays189 : Go.Proofs.Lays.n189 Try.prog Try.lays189_ren := {
  mixed := by kernel_rfl
  f125 := Try.func126.trans (congrArg some (by kernel_rfl))
  f128 := Try.func159.trans (congrArg some (by kernel_rfl))
  f129 := Try.func160.trans (congrArg some (by kernel_rfl))
  f189 := Try.func85.trans (congrArg some (by kernel_rfl))
  f215 := Try.func162.trans (congrArg some (by kernel_rfl))
  f216 := Try.func134.trans (congrArg some (by kernel_rfl))
  f257 := Try.func125.trans (congrArg some (by kernel_rfl))
  f294 := Try.func151.trans (congrArg some (by kernel_rfl))
  f295 := Try.func152.trans (congrArg some (by kernel_rfl))
  f296 := Try.func153.trans (congrArg some (by kernel_rfl))
  f297 := Try.func154.trans (congrArg some (by kernel_rfl))
  f298 := Try.func155.trans (congrArg some (by kernel_rfl))
  f299 := Try.func156.trans (congrArg some (by kernel_rfl))
  f300 := Try.func157.trans (congrArg some (by kernel_rfl))
  f301 := Try.func158.trans (congrArg some (by kernel_rfl))
  f328 := Try.func174.trans (congrArg some (by kernel_rfl))
  f329 := Try.func175.trans (congrArg some (by kernel_rfl))
  f330 := Try.func176.trans (congrArg some (by kernel_rfl))
  f331 := Try.func177.trans (congrArg some (by kernel_rfl))
  f332 := Try.func178.trans (congrArg some (by kernel_rfl))
  f343 := Try.func186.trans (congrArg some (by kernel_rfl))
  t0 := Try.underlying0
  a0 := Try.isAgg0
  z0 := Try.sizeOf0
  v0 := Try.zeroValue0
  t3 := Try.underlying3
  a3 := Try.isAgg3
  z3 := Try.sizeOf3
  v3 := Try.zeroValue3
  t4 := Try.underlying4
  a4 := Try.isAgg4
  z4 := Try.sizeOf4
  v4 := Try.zeroValue4
  t5 := Try.underlying5
  a5 := Try.isAgg5
  z5 := Try.sizeOf5
  v5 := Try.zeroValue5
  t9 := Try.underlying9
  a9 := Try.isAgg9
  z9 := Try.sizeOf9
  v9 := Try.zeroValue9
  t28 := Try.underlying35
  a28 := Try.isAgg35
  z28 := Try.sizeOf35
  v28 := Try.zeroValue35
  t46 := Try.underlying181
  a46 := Try.isAgg181
  z46 := Try.sizeOf181
  v46 := Try.zeroValue181
  t51 := Try.underlying217
  a51 := Try.isAgg217
  z51 := Try.sizeOf217
  v51 := Try.zeroValue217
  t53 := Try.underlying172
  a53 := Try.isAgg172
  z53 := Try.sizeOf172
  v53 := Try.zeroValue172
  t131 := Try.underlying147
  a131 := Try.isAgg147
  z131 := Try.sizeOf147
  v131 := Try.zeroValue147
  t182 := Try.underlying211
  a182 := Try.isAgg211
  z182 := Try.sizeOf211
  v182 := Try.zeroValue211
  t183 := Try.underlying212
  a183 := Try.isAgg212
  z183 := Try.sizeOf212
  v183 := Try.zeroValue212
  t218 := Try.underlying227
  a218 := Try.isAgg227
  z218 := Try.sizeOf227
  v218 := Try.zeroValue227
  t222 := Try.underlying231
  a222 := Try.isAgg231
  z222 := Try.sizeOf231
  v222 := Try.zeroValue231
  t228 := Try.underlying236
  a228 := Try.isAgg236
  z228 := Try.sizeOf236
  v228 := Try.zeroValue236
  t229 := Try.underlying237
  a229 := Try.isAgg237
  z229 := Try.sizeOf237
  v229 := Try.zeroValue237 }
def Try.lays112_ren : Go.Shelf.Ren := ⟨fun | 112 => 88 | n => n, fun | 28 => 35 | 3 => 3 | 4 => 4 | 0 => 0 | n => n, fun | n => n⟩
theorem Try.lays112 : Go.Proofs.Lays.n112 Try.prog Try.lays112_ren := {
  mixed := by kernel_rfl
  f112 := Try.func88.trans (congrArg some (by kernel_rfl))
  t0 := Try.underlying0
  a0 := Try.isAgg0
  z0 := Try.sizeOf0
  v0 := Try.zeroValue0
  t3 := Try.underlying3
  a3 := Try.isAgg3
  z3 := Try.sizeOf3
  v3 := Try.zeroValue3
  t4 := Try.underlying4
  a4 := Try.isAgg4
  z4 := Try.sizeOf4
  v4 := Try.zeroValue4
  t28 := Try.underlying35
  a28 := Try.isAgg35
  z28 := Try.sizeOf35
  v28 := Try.zeroValue35 }
end Go.Proofs

/- The walks of cfg's Order and Reachable. Conditions: none. -/
namespace Go.Eng
open Go.RowKit
set_option linter.unusedVariables false
theorem Cls.plus {H : List Eng.Item} {S : List World} {w2 w3 : World} {i : Eng.Item} (h : Cls H S w2) (hc : Cls [i] [w2] w3) (ho : ∀ k, i.own k → w2.heap.size ≤ k) : Cls (i :: H) S w3 :=
  h.add (hc.toExt (.head _) (fun k hk => NotOwned.any (fun hm => by have := ho k hm; omega) .nil)) i (hc.holds _ (.head _)) (fun k hk => ⟨ho k hk, hc.lt _ (.head _) k hk⟩)
theorem Cls.row_base {H : List Eng.Item} {S : List World} {w : World} {B B' m cap size : Nat} {O : Nat → Prop} {q : Option Addr} {e : TypeId} {xs : List Value} (h : Cls (row B O q m cap e size xs :: H) S w) (hB : B' ≤ B) : Cls (row B' (fun k => B ≤ k ∧ O k) q m cap e size xs :: H) S w := by
  have hd := List.pairwise_cons.1 h.dj
  refine ⟨fun i hi => ?_, fun i hi => ?_, .cons (fun j hj k hk => hd.1 j hj k hk.2) hd.2, fun s hs => (h.kp s hs).mono fun k _ ⟨j, hj, hjk⟩ => ?_⟩
  · cases hi with
    | head =>
      have h0 : (row B O q m cap e size xs).holds w := h.holds _ (.head _)
      refine ⟨fun a ha => ⟨?_, h0.1 a ha⟩, h0.2.1, ?_⟩
      · rcases h0.2.2 with ⟨h3, _⟩ | ⟨g, cap', cur, h3, hb, _⟩
        · rw [ha] at h3; cases h3
        · rw [ha] at h3
          simp only [Value.slice.injEq, Option.some.injEq] at h3
          rw [h3.1]; exact hb
      · rcases h0.2.2 with h3 | ⟨g, cap', cur, h3, hb, h4⟩
        · exact .inl h3
        · exact .inr ⟨g, cap', cur, h3, by omega, h4⟩
    | tail _ hi => exact h.holds _ (.tail _ hi)
  · cases hi with
    | head => exact fun k hk => h.lt (row B O q m cap e size xs) (.head _) k hk.2
    | tail _ hi => exact h.lt _ (.tail _ hi)
  · cases hj with
    | head =>
      have hjk' : B ≤ k ∧ O k := hjk
      exact ⟨_, .head _, by omega, hjk'⟩
    | tail _ hj => exact ⟨_, .tail _ hj, hjk⟩
end Go.Eng
namespace Go.Ss
open Go.Eng Go.RowKit
set_option linter.unusedVariables false
set_option linter.unusedSimpArgs false
def isrt (l : List Int) : List Int := l.mergeSort fun x y => decide (x ≤ y)
theorem isrt_perm (l : List Int) : (isrt l).Perm l := List.mergeSort_perm l _
theorem isrt_len (l : List Int) : (isrt l).length = l.length := (isrt_perm l).length_eq
theorem isrt_mem {l : List Int} {n : Int} : n ∈ isrt l ↔ n ∈ l := (isrt_perm l).mem_iff
theorem isrt_sorted (l : List Int) : (isrt l).Pairwise (· ≤ ·) := by
  have := List.pairwise_mergeSort (le := fun x y : Int => decide (x ≤ y)) (fun a b c h1 h2 => by simp at *; omega) (fun a b => by simp; omega) l
  exact this.imp fun h => by simpa using h
end Go.Ss
namespace Go.Proofs.Ytehelljmaiophaa.ss
open Go.Eng Go.RowKit Go.Ss Go.Shelf Go.Sort
set_option linter.unusedVariables false
set_option linter.unusedSimpArgs false
set_option maxRecDepth 100000
theorem SortI_calls {p : Nat} {H : List Eng.Item} {S : List World} {w : World} {base cap : Nat} {O : Nat → Prop} {q : Option Addr} {xs : List Int} {F : Eng.Item → List Eng.Item}
    (hh : Hole p H (Eng.row base O q xs.length cap 3 1 (ints xs)) F) (h : Cls H S w) (hlen : xs.length < 4611686018427387904) :
    Calls Try.prog 85 #[.slice q xs.length cap] w fun e w' => e = .returned (.tuple #[]) ∧ Cls (F (Eng.row base O q xs.length cap 3 1 (ints (isrt xs)))) S w' := by
  by_cases h0 : xs.length = 0
  · obtain rfl : xs = [] := List.eq_nil_of_length_eq_zero h0
    refine (Any.slices_Sort_int_none Try.lays189 q cap w).mono fun e w' he => ⟨he.1, ?_⟩
    rw [he.2]
    have e2 : isrt [] = [] := by simp [isrt]
    rw [e2, hh.eq.2, set_same hh.eq.1]
    exact h
  · have hi := h.holds _ (List.mem_of_getElem? hh.eq.1)
    obtain ⟨g, rfl⟩ : ∃ g, q = some ⟨g, 0, none⟩ := by
      rcases hi.2.2 with ⟨h3, h4⟩ | ⟨g', cap', cur, h3, _⟩
      · omega
      · exact ⟨g', by simp only [Value.slice.injEq] at h3; exact h3.1⟩
    obtain ⟨h1, h2⟩ := row_holds (enc := Value.int .i64) (d := xs.toArray) hi
    have hc := Any.slices_Sort_int Try.lays189 g 0 cap xs w h1 h2 hlen
    refine hc.mono fun e w' he => ⟨he.1, ?_⟩
    obtain ⟨n, os, hw⟩ := he.2
    have hp := Cls.rowPut hh h (isrt xs).toArray (by simp [isrt_len]) hw
    exact hp
theorem RevI_calls {p : Nat} {H : List Eng.Item} {S : List World} {w : World} {base cap : Nat} {O : Nat → Prop} {q : Option Addr} {xs : List Int} {F : Eng.Item → List Eng.Item}
    (hh : Hole p H (Eng.row base O q xs.length cap 3 1 (ints xs)) F) (h : Cls H S w) (hlen : xs.length ≤ 9223372036854775807) :
    Calls Try.prog 88 #[.slice q xs.length cap] w fun e w' => e = .returned (.tuple #[]) ∧ Cls (F (Eng.row base O q xs.length cap 3 1 (ints xs.reverse))) S w' := by
  by_cases h0 : xs.length = 0
  · obtain rfl : xs = [] := List.eq_nil_of_length_eq_zero h0
    refine (Any.slices_Reverse_int_empty Try.lays112 q cap w).mono fun e w' he => ⟨he.1, ?_⟩
    rw [he.2, List.reverse_nil, hh.eq.2, set_same hh.eq.1]
    exact h
  · have hi := h.holds _ (List.mem_of_getElem? hh.eq.1)
    obtain ⟨g, rfl⟩ : ∃ g, q = some ⟨g, 0, none⟩ := by
      rcases hi.2.2 with ⟨h3, h4⟩ | ⟨g', cap', cur, h3, _⟩
      · omega
      · exact ⟨g', by simp only [Value.slice.injEq] at h3; exact h3.1⟩
    obtain ⟨h1, h2⟩ := row_holds (enc := Value.int .i64) (d := xs.toArray) hi
    have hc := Any.slices_Reverse_int Try.lays112 g 0 cap xs w h1 hlen
    refine hc.mono fun e w' he => ⟨he.1, ?_⟩
    obtain ⟨n, hw⟩ := he.2
    have hw2 : w' = grow (putRow (Value.int .i64) (Sort.ahead w n) g 0 xs.reverse.toArray) #[] := by rw [hw]; unfold grow; rw [Array.append_empty]
    have hp := Cls.rowPut hh h xs.reverse.toArray (by simp) hw2
    exact hp
theorem Order_calls (fn : Go.Ss.Fn) (y : FnY) (w : World) (hfn : FnOk w (low w) fn y) :
    Calls Try.prog 38 [.agg (fnC fn y).toArray].toArray w fun e w' => (funcE fn ≠ 0 ∧ e = .returned (.tuple #[.slice none 0 0, .int .i64 (funcE fn)]) ∧ Ext w w') ∨ (funcE fn = 0 ∧ ∃ (O : Nat → Prop) (q : Option Addr) (c : Nat), e = .returned (.tuple #[.slice q (visC (graphB fn.blocks) 0 (List.replicate fn.blocks.length false, [])).2.reverse.length c, .int .i64 0]) ∧ Cls [row w.heap.size O q (visC (graphB fn.blocks) 0 (List.replicate fn.blocks.length false, [])).2.reverse.length c 3 1 (ints (visC (graphB fn.blocks) 0 (List.replicate fn.blocks.length false, [])).2.reverse)] [w] w') := by
  have hfn0 := hfn
  obtain ⟨es, hes, he⟩ := hfn.b
  obtain ⟨nm, bs⟩ := fn
  obtain ⟨q, cap⟩ := y
  have hbl := hfn.bl
  simp only at hes he hbl ⊢
  have hbl2 : bs.length = es.length := by rw [← hes, List.length_map]
  refine enter Try.func38 rfl Try.ntmps38 rfl (Cls.start w) ?_
  (simp only [argEnv, Nat.zero_add, Nat.reduceAdd])
  simp only [fnC]
  rw [hbl2]
  apply W.sr
  apply OL.box; rfl; rfl; exact CellsL.agg; (intro bk hbk; simp only [AllLe, and_true] at hbk)
  apply oas; rfl; rfl
  apply oas; rfl; rfl
  apply OL.nx
  apply W.seq
  apply W.sr
  apply oop; rfl; apply Pev.load_blkA; rfl; exact yes; exact .head _; rfl; exact Take.au
  revert bk
  intro bF hbF
  have hbF1 : w.heap.size ≤ bF := by first | exact hbF | exact hbF.1
  have hC : ∀ w2, Cls [blk bF 24 [.int .i64 nm, .slice q es.length cap]] [w] w2 → Calls Try.prog 30 [.agg #[.int .i64 nm, .slice q es.length cap]].toArray w2 fun e w' => e = .returned (.int .i64 (funcE ⟨nm, bs⟩)) ∧ Ext w2 w' := fun w2 hw2 => by
    have h1 := CheckFunc_calls ⟨nm, bs⟩ ⟨q, cap⟩ w2 (fnR.mono (hw2.up (.head _)) (fnR.stab (hw2.same (.head _) (fun k hk => by exact NotOwned.au)) hfn0))
    simp only [fnC] at h1
    rw [hbl2] at h1
    exact h1
  (((first | (with_reducible apply OL.op) | (with_reducible apply QL.op)); (exact Guard.au); rfl; rfl); (exact Pev.call (v := .int .i64 (funcE ⟨nm, bs⟩)) rfl (by exact Args.au) (fun _ w2 hw2 => (hC w2 hw2).mono (fun e w3 h => ⟨h.1, hw2.ext h.2⟩))))
  apply oas; rfl; rfl
  apply OL.nsr
  apply omv; rfl; rfl
  apply obn; rfl; rfl; rfl; apply Bin.neq
  apply OL.nx
  (refine W.cnd (fun hne => ?_) (fun hne => ?_)) <;> (try (exfalso; first | omega | exact hne trivial | contradiction))
  · apply W.sr
    apply omv; rfl; rfl
    apply oas; rfl; rfl
    apply oas; rfl; rfl
    apply OL.nx
    refine W.rt ?_
    ((with_reducible apply At.fin2); rfl; rfl; rfl; intro w' hw')
    exact .inl ⟨hne, rfl, by (exact hw'.fr)⟩
  have hf0 : funcE ⟨nm, bs⟩ = 0 := by simpa using hne
  obtain ⟨h0, h128, hs0⟩ := func_zero hf0
  simp only at h0 h128 hs0
  have hEE : ∀ p ∈ es, (∀ e ∈ p.1.term.to_, 1 ≤ e.block ∧ e.block < (es.length : Int)) ∧ p.1.term.to_.length ≤ 257 := fun p hp => by
    have hpb : p.1 ∈ bs := by rw [← hes]; exact List.mem_map_of_mem hp
    refine ⟨fun e hpe => ?_, to_len hs0 hpb⟩
    have := shape_edges hs0 p.1 hpb e hpe
    omega
  obtain ⟨st, hst⟩ : ∃ st, visC (graphB bs) 0 (List.replicate es.length false, []) = st := ⟨_, rfl⟩
  have hcn : st.2.length ≤ es.length := by
    have h1 := visC_cnt (G := graphB bs) (k := 0) (st := (List.replicate es.length false, [])) (by simp [show 0 < es.length by omega])
    have h2 := unseen_le (List.replicate es.length false)
    rw [hst] at h1
    simp at h1 h2
    omega
  rw [hst]
  apply W.sk
  apply W.sr
  apply OL.alloc; rfl; rfl; exact CellsL.one rfl; (intro bk hbk; simp only [AllLe, and_true] at hbk)
  apply OL.nsr
  apply oop; rfl; apply Pev.load_blkA; rfl; exact yes; exact .tail _ (.head _); rfl; exact Take.au
  apply oop; rfl; apply Pev.makeFunc; exact Args.au; exact Args.au
  revert bk
  intro b5 hb5
  have hb51 : w.heap.size ≤ b5 := by first | exact hb5 | exact hb5.1
  have hS := fun w2 => search_calls w es q cap nm he (by omega) (by omega) hEE b5 w.heap.size hb51 (Nat.le_refl _) [w] (.head _) (fun s hs => by rw [List.mem_singleton.1 hs]; exact Nat.le_refl _) ⟨w, .head _, Nat.le_refl _⟩ (fun _ => False) none 0 [blk bF 24 [.int .i64 nm, .slice q es.length cap]] w2 (fun k hk => NotOwned.blk (by omega) NotOwned.nil)
  rw [hes, hst] at hS
  refine OL.callE (α := GR) (fun _ => .tuple #[]) (fun _ => True) (fun g => Cls [blk b5 35 [.slice g.q st.2.length g.c], row w.heap.size g.O g.q st.2.length g.c 3 1 (ints st.2), blk bF 24 [.int .i64 nm, .slice q es.length cap]] [w]) rfl rfl (by exact Args.au) (fun w2 hw2 => (hS w2 (hw2.row_nil w.heap.size 3 1).flip).mono fun e w3 ⟨O', qo', co', h1, h2⟩ => ⟨⟨O', qo', co'⟩, h1, trivial, h2⟩) ?_
  rintro ⟨O1, q1, c1⟩ _
  simp only
  apply OL.nsr
  apply old; rfl; rfl; exact .head _; rfl; rfl
  refine OL.callE (α := Unit) (fun _ => .tuple #[]) (fun _ => True) (fun _ => Cls [blk b5 35 [.slice q1 st.2.length c1], row w.heap.size O1 q1 st.2.length c1 3 1 (ints st.2.reverse), blk bF 24 [.int .i64 nm, .slice q es.length cap]] [w]) rfl rfl (by exact Args.au) (fun w2 hw2 => (RevI_calls (xs := st.2) (.s .z) hw2 (by omega)).mono fun e w3 ⟨h1, h2⟩ => ⟨(), h1, trivial, h2⟩) ?_
  rintro _ _
  apply OL.nsr
  apply old; rfl; rfl; exact .head _; rfl; rfl
  apply oas; rfl; rfl
  apply oas; rfl; rfl
  apply OL.nx
  apply W.ret
  ((with_reducible apply At.fin2); rfl; rfl; rfl; intro w' hw')
  refine .inr ⟨hf0, O1, q1, c1, by rw [List.length_reverse], ?_⟩
  rw [List.length_reverse]
  exact hw'.thin (.any (fun k hk => by rw [show k = b5 from hk]; exact ⟨hb51, trivial⟩) (.keep (.any (fun k hk => by rw [show k = bF from hk]; exact ⟨hbF1, trivial⟩) Thin.nil)))
theorem Reachable_calls (fn : Go.Ss.Fn) (y : FnY) (w : World) (hfn : FnOk w (low w) fn y) :
    Calls Try.prog 37 [.agg (fnC fn y).toArray].toArray w fun e w' => (funcE fn ≠ 0 ∧ e = .returned (.tuple #[.slice none 0 0, .int .i64 (funcE fn)]) ∧ Ext w w') ∨ (funcE fn = 0 ∧ ∃ (O : Nat → Prop) (q : Option Addr) (c : Nat), e = .returned (.tuple #[.slice q (isrt (visC (graphB fn.blocks) 0 (List.replicate fn.blocks.length false, [])).2.reverse).length c, .int .i64 0]) ∧ Cls [row w.heap.size O q (isrt (visC (graphB fn.blocks) 0 (List.replicate fn.blocks.length false, [])).2.reverse).length c 3 1 (ints (isrt (visC (graphB fn.blocks) 0 (List.replicate fn.blocks.length false, [])).2.reverse))] [w] w') := by
  have hfn0 := hfn
  obtain ⟨nm, bs⟩ := fn
  obtain ⟨q, cap⟩ := y
  simp only
  obtain ⟨l, hl⟩ : ∃ l, (visC (graphB bs) 0 (List.replicate bs.length false, [])).2.reverse = l := ⟨_, rfl⟩
  have hll : funcE ⟨nm, bs⟩ = 0 → l.length ≤ 128 := fun hf => by
    obtain ⟨h0, h128, _⟩ := func_zero hf
    simp only at h0 h128
    have h1 := visC_cnt (G := graphB bs) (k := 0) (st := (List.replicate bs.length false, [])) (by simp [h0])
    have h2 := unseen_le (List.replicate bs.length false)
    rw [← hl, List.length_reverse]
    simp at h1 h2
    omega
  rw [hl]
  have hO := fun w2 (S : List World) (H : List Eng.Item) (hw2 : Cls H S w2) (hs : w ∈ S) (hno : ∀ k, k < w.heap.size → NotOwned H k) => Order_calls ⟨nm, bs⟩ ⟨q, cap⟩ w2 (fnR.mono (hw2.up hs) (fnR.stab (hw2.same hs hno) hfn0))
  simp only [fnC, hl] at hO
  refine enter Try.func37 rfl Try.ntmps37 rfl (Cls.start w) ?_
  (simp only [argEnv, Nat.zero_add, Nat.reduceAdd])
  simp only [fnC]
  apply W.sr
  apply OL.box; rfl; rfl; exact CellsL.agg; (intro bk hbk; simp only [AllLe, and_true] at hbk)
  apply oas; rfl; rfl
  apply oas; rfl; rfl
  apply OL.nsr
  apply oop; rfl; apply Pev.load_blkA; rfl; exact yes; exact .head _; rfl; exact Take.au
  revert bk
  intro bF hbF
  have hbF1 : w.heap.size ≤ bF := by first | exact hbF | exact hbF.1
  by_cases hf : funcE ⟨nm, bs⟩ = 0
  · refine OL.callE (α := GR × Nat) (fun z => .tuple #[.slice z.1.q l.length z.1.c, .int .i64 0]) (fun z => w.heap.size ≤ z.2) (fun z => Cls [row z.2 z.1.O z.1.q l.length z.1.c 3 1 (ints l), blk bF 24 [.int .i64 nm, .slice q bs.length cap]] [w]) rfl rfl (by exact Args.au) (fun w2 hw2 => (hO w2 _ _ hw2 (by exact mau) (fun k hk => by exact NotOwned.au)).mono fun e w3 h => ?_) ?_
    · rcases h with ⟨h1, _⟩ | ⟨_, O', q', c', h1, h2⟩
      · exact absurd hf h1
      · exact ⟨(⟨O', q', c'⟩, w2.heap.size), h1, (hw2.kp w (by exact mau)).size, hw2.plus h2 (fun k hk => hk.1)⟩
    rintro ⟨⟨O1, q1, c1⟩, B⟩ hB
    simp only at hB ⊢
    apply omv; rfl; rfl
    apply oex; rfl; rfl; rfl
    apply oex; rfl; rfl; rfl
    apply oas; rfl; rfl
    apply oas; rfl; rfl
    apply OL.nsr
    apply omv; rfl; rfl
    refine OL.callE (α := Unit) (fun _ => .tuple #[]) (fun _ => True) (fun _ => Cls [row B O1 q1 l.length c1 3 1 (ints (isrt l)), blk bF 24 [.int .i64 nm, .slice q bs.length cap]] [w]) rfl rfl (by exact Args.au) (fun w2 hw2 => (SortI_calls (xs := l) .z hw2 (by have := hll hf; omega)).mono fun e w3 ⟨h1, h2⟩ => ⟨(), h1, trivial, h2⟩) ?_
    rintro _ _
    apply OL.nsr
    apply omv; rfl; rfl
    apply omv; rfl; rfl
    apply oas; rfl; rfl
    apply oas; rfl; rfl
    apply OL.nx
    apply W.ret
    ((with_reducible apply At.fin2); rfl; rfl; rfl; intro w' hw')
    refine .inr ⟨hf, fun k => B ≤ k ∧ O1 k, q1, c1, by rw [isrt_len], ?_⟩
    rw [isrt_len]
    exact (hw'.row_base hB).thin (.keep (.any (fun k hk => by rw [show k = bF from hk]; exact ⟨hbF1, trivial⟩) Thin.nil))
  · refine OL.callE (α := Unit) (fun z => .tuple #[.slice none 0 0, .int .i64 (funcE ⟨nm, bs⟩)]) (fun z => True) (fun z => Cls [blk bF 24 [.int .i64 nm, .slice q bs.length cap]] [w]) rfl rfl (by exact Args.au) (fun w2 hw2 => (hO w2 _ _ hw2 (by exact mau) (fun k hk => by exact NotOwned.au)).mono fun e w3 h => ?_) ?_
    · rcases h with ⟨_, h1, h2⟩ | ⟨h1, _⟩
      · exact ⟨(), h1, trivial, hw2.ext h2⟩
      · exact absurd h1 hf
    rintro _ _
    apply omv; rfl; rfl
    apply oex; rfl; rfl; rfl
    apply oex; rfl; rfl; rfl
    apply oas; rfl; rfl
    apply oas; rfl; rfl
    apply OL.nsr
    apply omv; rfl; rfl
    refine OL.callE (α := Unit) (fun _ => .tuple #[]) (fun _ => True) (fun _ => Cls [blk bF 24 [.int .i64 nm, .slice q bs.length cap]] [w]) rfl rfl (by exact Args.au) (fun w2 hw2 => (Any.slices_Sort_int_none Try.lays189 none 0 w2).mono fun e w3 h => ⟨(), h.1, trivial, by rw [h.2]; exact hw2⟩) ?_
    rintro _ _
    apply OL.nsr
    apply omv; rfl; rfl
    apply omv; rfl; rfl
    apply oas; rfl; rfl
    apply oas; rfl; rfl
    apply OL.nx
    apply W.ret
    ((with_reducible apply At.fin2); rfl; rfl; rfl; intro w' hw')
    exact .inl ⟨hf, rfl, by (exact hw'.fr)⟩
end Go.Proofs.Ytehelljmaiophaa.ss

/- The walks of the law's diamond and cfgWorks. Conditions: none. -/
namespace Go.Ss
open Go.Eng Go.RowKit
set_option linter.unusedVariables false
set_option linter.unusedSimpArgs false
def dia : Go.Ss.Fn := ⟨-1, [⟨[], [⟨1, 0, 1, []⟩], ⟨2, 1, 0, [], [⟨1, []⟩, ⟨2, []⟩]⟩⟩, ⟨[], [], ⟨1, 0, 0, [], [⟨3, []⟩]⟩⟩, ⟨[], [], ⟨1, 0, 0, [], [⟨3, []⟩]⟩⟩, ⟨[], [], ⟨0, 1, 0, [], []⟩⟩]⟩
theorem dia_ok : funcE dia = 0 := by
  have h0 : DefAt dia.blocks 1 0 1 := ⟨_, rfl, .inr ⟨0, _, rfl, rfl, rfl⟩⟩
  have hu : ∀ (k : Nat) b, dia.blocks[k]? = some b → UsesB dia.blocks k b := by
    intro k b hb
    have hk : k = 0 ∨ k = 1 ∨ k = 2 ∨ k = 3 := by
      have := (List.getElem?_eq_some_iff.1 hb).1
      simp [dia] at this
      omega
    rcases hk with rfl | rfl | rfl | rfl
    · obtain rfl := Option.some.inj hb
      refine ⟨fun n i hi v hv => ?_, fun v hv => ?_⟩
      · match n, hi with
        | 0, hi =>
          obtain rfl := Option.some.inj hi
          cases hv
        | n + 1, hi => simp at hi
      · obtain rfl : v = 1 := by simpa [operT] using hv
        exact ⟨0, 1, h0, .inl ⟨rfl, Nat.le_refl _⟩⟩
    · obtain rfl := Option.some.inj hb
      exact ⟨fun n i hi v hv => by simp at hi, fun v hv => by simp [operT] at hv⟩
    · obtain rfl := Option.some.inj hb
      exact ⟨fun n i hi v hv => by simp at hi, fun v hv => by simp [operT] at hv⟩
    · obtain rfl := Option.some.inj hb
      refine ⟨fun n i hi v hv => by simp at hi, fun v hv => ?_⟩
      obtain rfl : v = 1 := by simpa [operT] using hv
      exact ⟨0, 1, h0, .inr (.inl ⟨by decide, .inr (rc_none (.inl rfl) 3)⟩)⟩
  have hs : shapeE dia.blocks = 0 := by decide
  unfold funcE
  rw [if_neg (by decide), if_neg (by decide), if_neg (by decide), if_neg (fun h => h hs), if_pos hu]
theorem arrBlk {α μ : Type} {R : Rel α μ} {w : World} {b : Nat} {e : TypeId} {l : List (α × μ)} (hb : (blk b e (cat R.c l)).holds w) (he : ∀ p ∈ l, R.ok w (low w) p.1 p.2) : Arr R w (low w) l (some ⟨b, 0, none⟩) :=
  ⟨fun _ => ⟨_, rfl, blk_lt hb, fun j v hj => by rw [add_mid, blk_cell hb, Nat.zero_add]; exact hj⟩, he⟩
theorem blkInts {w : World} {b : Nat} {e : TypeId} {l : List Int} (hb : (blk b e (ints l)).holds w) : IntsO w (low w) l (some ⟨b, 0, none⟩) :=
  fun _ => ⟨_, rfl, blk_lt hb, fun j v hj => by rw [add_mid, blk_cell hb, Nat.zero_add]; exact hj⟩
theorem nilS (w : World) (O : Nat → Prop) : IntsO w O [] none := IntsO.nil
theorem dia_order : (visC (graphB dia.blocks) 0 (List.replicate dia.blocks.length false, [])).2.reverse = [0, 2, 1, 3] := by decide
theorem dia_preds : predsF (graphB dia.blocks) 0 3 = [1, 2] := by decide
end Go.Ss
namespace Go.Proofs.Ytehelljmaiophaa.ss
set_option maxRecDepth 100000
open Go.Eng Go.RowKit Go.Ss
set_option linter.unusedVariables false
set_option linter.unusedSimpArgs false
theorem diamond_calls (w : World) : Calls Try.prog 84 #[] w fun e w' => ∃ y : FnY, e = .returned (.agg (fnC dia y).toArray) ∧ Ext w w' ∧ FnOk w' (low w') dia y := by
  refine enter Try.func84 rfl Try.ntmps84 rfl (Cls.start w) ?_
  (simp only [argEnv, Nat.zero_add, Nat.reduceAdd])
  apply W.sr
  apply OL.alloc; rfl; rfl; exact CellsL.agg; (intro bk hbk; simp only [AllLe, and_true] at hbk)
  apply OL.nsr
  apply oop; rfl; apply Pev.build; rfl; exact CellsL.agg; rfl; exact Fill.au; rfl
  apply OL.buildSlice; rfl; rfl; rfl; exact Elems.au; rfl; rfl; (intro bk hbk; simp only [AllLe, and_true] at hbk)
  apply oop; rfl; apply Pev.build; rfl; exact CellsL.agg; rfl; exact Fill.au; rfl
  apply OL.alloc; rfl; rfl; exact CellsL.agg; (intro bk hbk; simp only [AllLe, and_true] at hbk)
  apply OL.storeB; rfl; rfl; exact CellsL.agg; rfl; rfl; rfl; exact Swap.au; exact Put.au
  apply OL.nsr
  apply oop; rfl; apply Pev.build; rfl; exact CellsL.agg; rfl; exact Fill.au; rfl
  apply OL.buildSlice; rfl; rfl; rfl; exact Elems.au; rfl; rfl; (intro bk hbk; simp only [AllLe, and_true] at hbk)
  apply oop; rfl; apply Pev.build; rfl; exact CellsL.agg; rfl; exact Fill.au; rfl
  apply oop; rfl; apply Pev.build; rfl; exact CellsL.agg; rfl; exact Fill.au; rfl
  apply OL.buildSlice; rfl; rfl; rfl; exact Elems.au; rfl; rfl; (intro bk hbk; simp only [AllLe, and_true] at hbk)
  apply oop; rfl; apply Pev.build; rfl; exact CellsL.agg; rfl; exact Fill.au; rfl
  apply oop; rfl; apply Pev.build; rfl; exact CellsL.agg; rfl; exact Fill.au; rfl
  apply oop; rfl; apply Pev.load_blkA; rfl; exact yes; exact .tail _ (.tail _ (.head _)); rfl; exact Take.au
  apply oop; rfl; apply Pev.build; rfl; exact CellsL.agg; rfl; exact Fill.au; rfl
  apply oop; rfl; apply Pev.load_blkA; rfl; exact yes; exact .tail _ (.tail _ (.head _)); rfl; exact Take.au
  apply oop; rfl; apply Pev.build; rfl; exact CellsL.agg; rfl; exact Fill.au; rfl
  apply oop; rfl; apply Pev.build; rfl; exact CellsL.agg; rfl; exact Fill.au; rfl
  apply oop; rfl; apply Pev.build; rfl; exact CellsL.agg; rfl; exact Fill.au; rfl
  apply OL.buildSlice; rfl; rfl; rfl; exact Elems.au; rfl; rfl; (intro bk hbk; simp only [AllLe, and_true] at hbk)
  apply oop; rfl; apply Pev.build; rfl; exact CellsL.agg; rfl; exact Fill.au; rfl
  apply OL.storeB; rfl; rfl; exact CellsL.agg; rfl; rfl; rfl; exact Swap.au; exact Put.au
  apply OL.nx
  apply W.ret
  rename_i b0 hb0 b3 hb3 b1 hb1 b6 hb6 b9 hb9
  revert bk
  intro b18 hb18
  refine At.finC (b := b0) (cs := [.int .i64 (-1), .slice (some ⟨b18, 0, none⟩) 4 4]) rfl rfl (by exact mau) rfl rfl (fun w' hw' => ?_)
  have h3 : ArrP edR w' (low w') [⟨3, []⟩] (some ⟨b3, 0, none⟩) := ⟨[(⟨3, []⟩, (none, 0))], rfl, arrBlk (e := 105) (hw'.item (by exact mau)) (fun p hp => by
    obtain rfl := List.mem_singleton.1 hp
    exact ⟨by simp [I64], by simp, nilS _ _, fun n hn => (by cases hn)⟩)⟩
  have h9 : ArrP edR w' (low w') [⟨1, []⟩, ⟨2, []⟩] (some ⟨b9, 0, none⟩) := ⟨[(⟨1, []⟩, (none, 0)), (⟨2, []⟩, (none, 0))], rfl, arrBlk (e := 105) (hw'.item (by exact mau)) (fun p hp => by
    rcases List.mem_cons.1 hp with rfl | hp
    · exact ⟨by simp [I64], by simp, nilS _ _, fun n hn => (by cases hn)⟩
    · obtain rfl := List.mem_singleton.1 hp
      exact ⟨by simp [I64], by simp, nilS _ _, fun n hn => (by cases hn)⟩)⟩
  have h6 : ArrP inR w' (low w') [⟨1, 0, 1, []⟩] (some ⟨b6, 0, none⟩) := ⟨[(⟨1, 0, 1, []⟩, (none, 0))], rfl, arrBlk (e := 85) (hw'.item (by exact mau)) (fun p hp => by
    obtain rfl := List.mem_singleton.1 hp
    exact ⟨by simp [I64], by simp [I64], by simp [I64], by simp, by simp, nilS _ _, fun n hn => (by cases hn)⟩)⟩
  have hj : BkOk w' (low w') ⟨[], [], ⟨1, 0, 0, [], [⟨3, []⟩]⟩⟩ ⟨(none, 0), (none, 0), ⟨(none, 0), (some ⟨b3, 0, none⟩, 1)⟩⟩ :=
    ⟨by simp, by simp, by simp, by simp, nilS _ _, fun n hn => (by cases hn), ArrP.nil, ⟨by simp [I64], by simp [I64], by simp [I64], by simp, by simp, by simp, by simp, nilS _ _, fun n hn => (by cases hn), h3⟩⟩
  refine ⟨⟨some ⟨b18, 0, none⟩, 4⟩, rfl, by (exact hw'.fr), by simp [dia, I64], by simp [dia], by simp [dia], ⟨[(⟨[], [⟨1, 0, 1, []⟩], ⟨2, 1, 0, [], [⟨1, []⟩, ⟨2, []⟩]⟩⟩, ⟨(none, 0), (some ⟨b6, 0, none⟩, 1), ⟨(none, 0), (some ⟨b9, 0, none⟩, 2)⟩⟩), (⟨[], [], ⟨1, 0, 0, [], [⟨3, []⟩]⟩⟩, ⟨(none, 0), (none, 0), ⟨(none, 0), (some ⟨b3, 0, none⟩, 1)⟩⟩), (⟨[], [], ⟨1, 0, 0, [], [⟨3, []⟩]⟩⟩, ⟨(none, 0), (none, 0), ⟨(none, 0), (some ⟨b3, 0, none⟩, 1)⟩⟩), (⟨[], [], ⟨0, 1, 0, [], []⟩⟩, ⟨(none, 0), (none, 0), ⟨(none, 0), (none, 0)⟩⟩)], rfl, arrBlk (e := 41) (hw'.item (by exact mau)) (fun p hp => ?_)⟩⟩
  rcases List.mem_cons.1 hp with rfl | hp
  · exact ⟨by simp, by simp, by simp, by simp, nilS _ _, fun n hn => (by cases hn), h6, ⟨by simp [I64], by simp [I64], by simp [I64], by simp, by simp, by simp, by simp, nilS _ _, fun n hn => (by cases hn), h9⟩⟩
  rcases List.mem_cons.1 hp with rfl | hp
  · exact hj
  rcases List.mem_cons.1 hp with rfl | hp
  · exact hj
  obtain rfl := List.mem_singleton.1 hp
  exact ⟨by simp, by simp, by simp, by simp, nilS _ _, fun n hn => (by cases hn), ArrP.nil, ⟨by simp [I64], by simp [I64], by simp [I64], by simp, by simp, by simp, by simp, nilS _ _, fun n hn => (by cases hn), ArrP.nil⟩⟩
theorem Order_ext (fn : Go.Ss.Fn) (y : FnY) (w : World) (hfn : FnOk w (low w) fn y) :
    Calls Try.prog 38 [.agg (fnC fn y).toArray].toArray w fun e w' => Ext w w' ∧ ((funcE fn ≠ 0 ∧ e = .returned (.tuple #[.slice none 0 0, .int .i64 (funcE fn)])) ∨ (funcE fn = 0 ∧ ∃ (q : Option Addr) (c : Nat), e = .returned (.tuple #[.slice q (visC (graphB fn.blocks) 0 (List.replicate fn.blocks.length false, [])).2.reverse.length c, .int .i64 0]) ∧ IntsO w' (low w') (visC (graphB fn.blocks) 0 (List.replicate fn.blocks.length false, [])).2.reverse q)) :=
  (Order_calls fn y w hfn).mono fun e w' h => by
    rcases h with ⟨h1, h2, h3⟩ | ⟨h1, O, q, c, h2, h3⟩
    · exact ⟨h3, .inl ⟨h1, h2⟩⟩
    · exact ⟨(h3.thin (.any (fun k hk => ⟨hk.1, trivial⟩) Thin.nil)).fr (by exact mau) (fun k hk => NotOwned.nil), .inr ⟨h1, q, c, h2, rowIntsL h3 (.head _)⟩⟩
theorem Reachable_ext (fn : Go.Ss.Fn) (y : FnY) (w : World) (hfn : FnOk w (low w) fn y) :
    Calls Try.prog 37 [.agg (fnC fn y).toArray].toArray w fun e w' => Ext w w' ∧ ((funcE fn ≠ 0 ∧ e = .returned (.tuple #[.slice none 0 0, .int .i64 (funcE fn)])) ∨ (funcE fn = 0 ∧ ∃ (q : Option Addr) (c : Nat), e = .returned (.tuple #[.slice q (isrt (visC (graphB fn.blocks) 0 (List.replicate fn.blocks.length false, [])).2.reverse).length c, .int .i64 0]) ∧ IntsO w' (low w') (isrt (visC (graphB fn.blocks) 0 (List.replicate fn.blocks.length false, [])).2.reverse) q)) :=
  (Reachable_calls fn y w hfn).mono fun e w' h => by
    rcases h with ⟨h1, h2, h3⟩ | ⟨h1, O, q, c, h2, h3⟩
    · exact ⟨h3, .inl ⟨h1, h2⟩⟩
    · exact ⟨(h3.thin (.any (fun k hk => ⟨hk.1, trivial⟩) Thin.nil)).fr (by exact mau) (fun k hk => NotOwned.nil), .inr ⟨h1, q, c, h2, rowIntsL h3 (.head _)⟩⟩
theorem empty_ok : funcE ⟨0, []⟩ = 3 := by
  unfold funcE
  exact if_pos rfl
theorem cfgWorks_calls (w : World) : Calls Try.prog 35 #[] w fun e w' => e = .returned (.bool true) ∧ Ext w w' := by
  refine enter Try.func35 rfl Try.ntmps35 rfl (Cls.start w) ?_
  (simp only [argEnv, Nat.zero_add, Nat.reduceAdd])
  apply W.sr
  apply oas; rfl; rfl
  apply OL.nsr
  refine OL.callE (α := FnY × World) (fun z => .agg (fnC dia z.1).toArray) (fun z => FnOk z.2 (low z.2) dia z.1) (fun z => Cls [] [z.2, w]) rfl rfl (by exact Args.au) (fun w2 hw2 => (diamond_calls w2).mono fun e w3 ⟨y, h1, h2, h3⟩ => ⟨(y, w3), h1, h3, (hw2.ext h2).note⟩) ?_
  rintro ⟨y1, w1⟩ hf1
  simp only at hf1 ⊢
  skip
  refine OL.callE (α := (Option Addr × Nat) × World) (fun z => .tuple #[.slice z.1.1 4 z.1.2, .int .i64 0]) (fun z => IntsO z.2 (low z.2) [0, 2, 1, 3] z.1.1) (fun z => Cls [] [z.2, w]) rfl rfl (by exact Args.au) (fun w2 hw2 => (Order_ext dia y1 w2 (fnR.mono (hw2.up (.head _)) (fnR.stab (hw2.same (.head _) (fun k hk => NotOwned.nil)) hf1))).mono fun e w3 ⟨h1, h2⟩ => ?_) ?_
  · rcases h2 with ⟨h2, _⟩ | ⟨_, q, c, h2, h3⟩
    · exact absurd dia_ok h2
    · rw [dia_order] at h2 h3
      exact ⟨((q, c), w3), h2, h3, ((hw2.ext h1).forget (by simp)).note⟩
  rintro ⟨⟨q2, c2⟩, w2⟩ hI2
  simp only at hI2 ⊢
  apply omv; rfl; rfl
  apply oex; rfl; rfl; rfl
  apply oex; rfl; rfl; rfl
  apply oas; rfl; rfl
  apply oas; rfl; rfl
  apply OL.nsr
  refine OL.callE (α := FnY × World) (fun z => .agg (fnC dia z.1).toArray) (fun z => FnOk z.2 (low z.2) dia z.1) (fun z => Cls [] [z.2, w2, w]) rfl rfl (by exact Args.au) (fun w3 hw3 => (diamond_calls w3).mono fun e w4 ⟨y, h1, h2, h3⟩ => ⟨(y, w4), h1, h3, (hw3.ext h2).note⟩) ?_
  rintro ⟨y3, w3⟩ hf3
  simp only at hf3 ⊢
  skip
  refine OL.callE (α := Nat × World) (fun z => .tuple #[.slice (some ⟨z.1, 0, none⟩) 4 4, .int .i64 0]) (fun z => z.1 < z.2.heap.size ∧ ∃ (q : Option Addr) (c : Nat), z.2.cell? ⟨z.1, 3, none⟩ = some (.slice q 2 c) ∧ IntsO z.2 (low z.2) [1, 2] q) (fun z => Cls [] [z.2, w2, w]) rfl rfl (by exact Args.au) (fun w4 hw4 => (CPreds_calls dia y3 w4 (fnR.mono (hw4.up (.head _)) (fnR.stab (hw4.same (.head _) (fun k hk => NotOwned.nil)) hf3))).mono fun e w5 ⟨h1, h2⟩ => ?_) ?_
  · rcases h2 with ⟨h2, _⟩ | ⟨_, bO, h2, h3, h4⟩
    · exact absurd dia_ok h2
    · obtain ⟨q, c, h5, h6⟩ := h4 3 (by decide)
      have h7 : predsF (graphB dia.blocks) 0 ((3 : Nat) : Int) = [1, 2] := dia_preds
      rw [h7] at h5 h6
      exact ⟨(bO, w5), h2, ⟨h3, q, c, h5, h6⟩, ((hw4.ext h1).forget (by simp)).note⟩
  rintro ⟨bO, w4⟩ ⟨hbO, q4, c4, hc4, hI4⟩
  simp only at hbO hc4 hI4 ⊢
  apply omv; rfl; rfl
  apply oex; rfl; rfl; rfl
  apply oex; rfl; rfl; rfl
  apply oas; rfl; rfl
  apply oas; rfl; rfl
  apply OL.nsr
  apply oop; rfl; apply Pev.build; rfl; exact CellsL.agg; rfl; exact Fill.au; rfl
  refine OL.callE (α := Unit) (fun z => .tuple #[.slice none 0 0, .int .i64 3]) (fun z => True) (fun z => Cls [] [w4, w2, w]) rfl rfl (by exact Args.au) (fun w5 hw5 => (Order_ext ⟨0, []⟩ ⟨none, 0⟩ w5 ⟨by simp [I64], by simp, by simp, ArrP.nil⟩).mono fun e w6 ⟨h1, h2⟩ => ?_) ?_
  · rcases h2 with ⟨_, h2⟩ | ⟨h2, _⟩
    · rw [empty_ok] at h2
      exact ⟨(), h2, trivial, hw5.ext h1⟩
    · rw [empty_ok] at h2
      cases h2
  rintro _ _
  apply omv; rfl; rfl
  apply oex; rfl; rfl; rfl
  apply oex; rfl; rfl; rfl
  apply oas; rfl; rfl
  apply oas; rfl; rfl
  apply OL.nsr
  apply omv; rfl; rfl
  apply obn; rfl; rfl; rfl; apply Bin.eql
  apply omv; rfl; rfl
  apply oy; rfl; rfl; rfl; apply Pev.move; rfl; exact yes
  ((apply OL.ungate); (exact Guard.au); (decide))
  apply OL.buildSlice; rfl; rfl; rfl; exact Elems.au; rfl; rfl; (intro bk hbk; simp only [AllLe, and_true] at hbk)
  revert bk
  intro b26 hb26
  have hb261 : w2.heap.size ≤ b26 := by first | exact hb26.2.1 | exact hb26.1 | omega
  have hb262 : w4.heap.size ≤ b26 := by first | exact hb26.1 | exact hb26 | omega
  (((first | (with_reducible apply OL.op) | (with_reducible apply QL.op)); (exact Guard.au); rfl; rfl); (exact Pev.call (v := .bool true) rfl (by exact Args.au) (fun _ w5 hw5 => (SameInts_calls q2 (some ⟨b26, 0, none⟩) c2 4 [0, 2, 1, 3] [0, 2, 1, 3] w5 (by simp) (by simp) (hI2.at hw5 (.tail _ (.head _)) (fun k hk => by exact NotOwned.au)) (blkInts (hw5.item (.head _)))).mono (fun e w6 h => ⟨by rw [h.1]; rfl, hw5.ext h.2⟩))))
  apply oop; rfl; apply Pev.pick_and; rfl; exact yes; rfl; exact yes
  apply omv; rfl; rfl
  apply oy; rfl; rfl; rfl; apply Pev.move; rfl; exact yes
  apply oy; rfl; rfl; rfl; apply Pev.bin; rfl; exact yes; rfl; exact yes; intro hcond; apply Bin.eql
  apply oop; rfl; apply Pev.pick_and; rfl; exact yes; rfl; exact yes
  apply omv; rfl; rfl
  apply oy; rfl; rfl; rfl; apply Pev.move; rfl; exact yes
  apply oy; rfl; rfl; rfl; apply Pev.len_slice; rfl; exact yes; rfl
  apply oy; rfl; rfl; rfl; apply Pev.bin; rfl; exact yes; rfl; exact yes; intro hcond; apply Bin.eql
  apply oop; rfl; apply Pev.pick_and; rfl; exact yes; rfl; exact yes
  apply omv; rfl; rfl
  apply oy; rfl; rfl; rfl; apply Pev.move; rfl; exact yes
  apply oy; rfl; rfl; rfl; apply Pev.idxB; rfl; exact yes; rfl; exact yes; rfl; intro hcond; omega; rfl
  apply oy; rfl; rfl; rfl; apply Pev.load_kept; rfl; exact yes; exact .head _; rfl; intro hcond; assumption; intro hcond; assumption; intro hcond; exact NotOwned.au
  ((apply OL.ungate); (exact Guard.au); (decide))
  apply OL.buildSlice; rfl; rfl; rfl; exact Elems.au; rfl; rfl; (intro bk hbk; simp only [AllLe, and_true] at hbk)
  revert bk
  intro b42 hb42
  have hb421 : w4.heap.size ≤ b42 := by first | exact hb42.1 | exact hb42 | omega
  (((first | (with_reducible apply OL.op) | (with_reducible apply QL.op)); (exact Guard.au); rfl; rfl); (exact Pev.call (v := .bool true) rfl (by exact Args.au) (fun _ w5 hw5 => (SameInts_calls q4 (some ⟨b42, 0, none⟩) c4 2 [1, 2] [1, 2] w5 (by simp) (by simp) (hI4.at hw5 (.head _) (fun k hk => by exact NotOwned.au)) (blkInts (hw5.item (.head _)))).mono (fun e w6 h => ⟨by rw [h.1]; rfl, hw5.ext h.2⟩))))
  apply oop; rfl; apply Pev.pick_and; rfl; exact yes; rfl; exact yes
  apply omv; rfl; rfl
  apply oy; rfl; rfl; rfl; apply Pev.move; rfl; exact yes
  apply oy; rfl; rfl; rfl; apply Pev.bin; rfl; exact yes; rfl; exact yes; intro hcond; apply Bin.eql
  apply oop; rfl; apply Pev.pick_and; rfl; exact yes; rfl; exact yes
  apply oas; rfl; rfl
  apply OL.nx
  apply W.ret
  ((with_reducible apply At.fin1); rfl; rfl; intro w' hw')
  exact ⟨rfl, (hw'.thin (by exact Thin.au)).fr (by exact mau) (fun k hk => NotOwned.nil)⟩
end Go.Proofs.Ytehelljmaiophaa.ss

/- The walks of the reference's SameRows and of the law's liveWorks. Conditions: none. -/
namespace Go.Ss
open Go.Eng Go.RowKit
set_option linter.unusedVariables false
set_option linter.unusedSimpArgs false
def lvx : Go.Ss.Fn := ⟨-1, [⟨[], [⟨1, 0, 1, []⟩, ⟨2, 0, 2, []⟩], ⟨0, 2, 0, [], []⟩⟩]⟩
theorem lvx_ok : funcE lvx = 0 := by
  have h0 : DefAt lvx.blocks 2 0 2 := ⟨_, rfl, .inr ⟨1, _, rfl, rfl, rfl⟩⟩
  have hu : ∀ (k : Nat) b, lvx.blocks[k]? = some b → UsesB lvx.blocks k b := by
    intro k b hb
    obtain rfl : k = 0 := by
      have := (List.getElem?_eq_some_iff.1 hb).1
      simp [lvx] at this
      omega
    obtain rfl := Option.some.inj hb
    refine ⟨fun n i hi v hv => ?_, fun v hv => ?_⟩
    · match n, hi with
      | 0, hi =>
        obtain rfl := Option.some.inj hi
        cases hv
      | 1, hi =>
        obtain rfl := Option.some.inj hi
        cases hv
      | n + 2, hi => simp at hi
    · obtain rfl : v = 2 := by simpa [operT] using hv
      exact ⟨0, 2, h0, .inl ⟨rfl, Nat.le_refl _⟩⟩
  have hs : shapeE lvx.blocks = 0 := by decide
  unfold funcE
  rw [if_neg (by decide), if_neg (by decide), if_neg (by decide), if_neg (fun h => h hs), if_pos hu]
theorem lvx_fresh : (freshF lvx.blocks).toNat + 1 = 4 := by decide
theorem lvx_2 (v : Int) : LiveS lvx.blocks v 0 2 ↔ v = 2 := by
  rw [LiveS.last (b := ⟨[], [⟨1, 0, 1, []⟩, ⟨2, 0, 2, []⟩], ⟨0, 2, 0, [], []⟩⟩) rfl (by simp)]
  simp [operT]
theorem lvx_1 (v : Int) : ¬ LiveS lvx.blocks v 0 1 := by
  rw [LiveS.back (b := ⟨[], [⟨1, 0, 1, []⟩, ⟨2, 0, 2, []⟩], ⟨0, 2, 0, [], []⟩⟩) (i := ⟨2, 0, 2, []⟩) rfl rfl, lvx_2]
  simp
  omega
theorem lvx_0 (v : Int) : ¬ LiveS lvx.blocks v 0 0 := by
  rw [LiveS.back (b := ⟨[], [⟨1, 0, 1, []⟩, ⟨2, 0, 2, []⟩], ⟨0, 2, 0, [], []⟩⟩) (i := ⟨1, 0, 1, []⟩) rfl rfl]
  have := lvx_1 v
  simp [this]
theorem lvx_b2 (v : Int) : liveB lvx.blocks v 0 2 = decide (v = 2) := by
  by_cases h : v = 2
  · rw [liveB_yes ((lvx_2 v).2 h), decide_eq_true h]
  · rw [liveB_no (fun h' => h ((lvx_2 v).1 h')), decide_eq_false h]
theorem lvx_first : liveL lvx.blocks 4 0 0 = [] := by
  unfold liveL
  rw [List.filter_congr (q := fun _ => false) (fun v _ => liveB_no (lvx_0 _))]
  rfl
theorem lvx_last : liveL lvx.blocks 4 0 2 = [2] := by
  unfold liveL
  rw [List.filter_congr (q := fun v : Nat => decide ((v : Int) = 2)) (fun v _ => lvx_b2 _)]
  decide
theorem lvx_pl (v : Nat) : plcF lvx.blocks v 0 0 2 = if v = 2 then [2] else [] := by
  unfold plcF
  rw [show List.range' 0 (2 + 1 - 0) = [0, 1, 2] from rfl, List.filter_cons, liveB_no (lvx_0 _), List.filter_cons, liveB_no (lvx_1 _), List.filter_cons, lvx_b2]
  by_cases h : v = 2
  · subst h; rfl
  · rw [if_neg h, decide_eq_false (by omega)]
    rfl
theorem lvx_ranges : rangesL lvx.blocks 4 = [⟨2, 0, 2, 2⟩] := by
  unfold rangesL
  have h : ∀ v, partsT lvx.blocks v lvx.blocks.length = partOf v 0 (if v = 2 then [2] else []) := fun v => by
    show partsT lvx.blocks v 1 = _
    unfold partsT
    rw [show List.range 1 = [0] from rfl, List.flatMap_cons, List.flatMap_nil, List.append_nil]
    show partOf v 0 (plcF lvx.blocks v 0 0 2) = _
    rw [lvx_pl]
  simp only [h]
  rfl
end Go.Ss
namespace Go.Proofs.Ytehelljmaiophaa.ss
set_option maxRecDepth 100000
open Go.Eng Go.RowKit Go.Ss
set_option linter.unusedVariables false
set_option linter.unusedSimpArgs false
theorem SameRows_calls (qa qb : Option Addr) (ca cb : Nat) (A B : List (List Int × Sc)) (w : World) (hA : Arr intsR w (low w) A qa) (hB : Arr intsR w (low w) B qb) (hla : A.length ≤ 1000000) (hlb : B.length ≤ 1000000) (hA1 : ∀ p ∈ A, p.1.length ≤ 1000000) (hB1 : ∀ p ∈ B, p.1.length ≤ 1000000) :
    Calls Try.prog 55 [.slice qa A.length ca, .slice qb B.length cb].toArray w fun e w' => e = .returned (.bool (decide (A.map Prod.fst = B.map Prod.fst))) ∧ Ext w w' := by
  refine enter Try.func55 rfl Try.ntmps55 rfl (Cls.start w) ?_
  (simp only [argEnv, Nat.zero_add, Nat.reduceAdd])
  apply W.sr
  apply oas; rfl; rfl
  apply OL.nx
  apply W.seq
  apply W.sr
  apply omv; rfl; rfl
  apply oop; rfl; apply Pev.len_slice; rfl; exact yes; rfl
  apply omv; rfl; rfl
  apply oop; rfl; apply Pev.len_slice; rfl; exact yes; rfl
  apply obn; rfl; rfl; rfl; apply Bin.neq
  apply OL.nx
  (refine W.cnd (fun hne => ?_) (fun hne => ?_)) <;> (try (exfalso; first | omega | exact hne trivial | contradiction))
  · apply W.sr
    apply oas; rfl; rfl
    apply OL.nx
    refine W.rt ?_
    ((with_reducible apply At.fin1); rfl; rfl; intro w' hw')
    have : ¬ A.map Prod.fst = B.map Prod.fst := fun e => by
      have := congrArg List.length e
      simp at this
      omega
    exact ⟨by rw [decide_eq_false this], by (exact hw'.fr)⟩
  have hlen : A.length = B.length := by omega
  apply W.sk
  apply W.seq
  apply W.sr
  apply omv; rfl; rfl
  apply oop; rfl; apply Pev.len_slice; rfl; exact yes; rfl
  apply omv; rfl; rfl
  apply OL.nx
  apply W.block
  refine W.loop (G := Nat) (fun i => i ≤ A.length ∧ ∀ j, j < i → (A.map Prod.fst)[j]? = (B.map Prod.fst)[j]?) (fun i => A.length - i)
    (fun i => [(14, true, .int .i64 (i : Int)), (13, true, .int .i64 (A.length : Int)), (12, true, .slice qa A.length ca), (1, true, .slice qb B.length cb)])
    (fun i => Cls [] [w]) 0 ⟨by omega, fun j hj => by omega⟩ (by exact Sub.au) (fun w' hw' => hw') ?_
  rintro i ⟨hi, hsame⟩
  apply W.sr
  apply obn; rfl; rfl; rfl; apply Bin.lss
  apply OL.nx
  apply W.seq
  (refine W.cnd (fun hlt => ?_) (fun hlt => ?_)) <;> (try (exfalso; first | omega | exact hlt trivial | contradiction))
  · obtain ⟨a, p, rfl, hab, hp, hcell, hok⟩ := hA.get (show i < A.length by omega)
    obtain ⟨a2, p2, rfl, hab2, hp2, hcell2, hok2⟩ := hB.get (show i < B.length by omega)
    have hab : a.block < w.heap.size := hab
    have hab2 : a2.block < w.heap.size := hab2
    have hok : IntsO w (low w) p.1 p.2.1 := hok
    have hok2 : IntsO w (low w) p2.1 p2.2.1 := hok2
    have hc : w.cell? (a.add (i * 1)) = some (.slice p.2.1 p.1.length p.2.2) := by have := hcell 0 _ (show ([slI p] : List Value)[0]? = some _ from rfl); rwa [add_zero_] at this
    have hc2 : w.cell? (a2.add (i * 1)) = some (.slice p2.2.1 p2.1.length p2.2.2) := by have := hcell2 0 _ (show ([slI p2] : List Value)[0]? = some _ from rfl); rwa [add_zero_] at this
    have hl1 := hA1 p (List.mem_of_getElem? hp)
    have hl2 := hB1 p2 (List.mem_of_getElem? hp2)
    apply W.sk
    apply W.sb
    apply W.sr
    apply omv; rfl; rfl
    apply oop; rfl; apply Pev.idx; rfl; exact yes; rfl; exact yes; rfl; rfl; intro hcond; omega
    apply oop; rfl; apply Pev.load_kept; rfl; exact yes; exact .head _; rfl; intro hcond; assumption; intro hcond; (rw [add_block]; assumption); intro hcond; exact NotOwned.au
    apply oas; rfl; rfl
    apply oas; rfl; rfl
    apply OL.nsr
    apply omv; rfl; rfl
    apply omv; rfl; rfl
    apply omv; rfl; rfl
    apply oop; rfl; apply Pev.idx; rfl; exact yes; rfl; exact yes; rfl; rfl; intro hcond; omega
    apply oop; rfl; apply Pev.load_kept; rfl; exact yes; exact .head _; rfl; intro hcond; assumption; intro hcond; (rw [add_block]; assumption); intro hcond; exact NotOwned.au
    (((first | (with_reducible apply OL.op) | (with_reducible apply QL.op)); (exact Guard.au); rfl; rfl); (exact Pev.call (v := .bool (decide (p.1 = p2.1))) rfl (by exact Args.au) (fun _ w2 hw2 => (SameInts_calls p.2.1 p2.2.1 p.2.2 p2.2.2 p.1 p2.1 w2 (by omega) (by omega) (hok.at hw2 (by exact mau) (fun k hk => NotOwned.nil)) (hok2.at hw2 (by exact mau) (fun k hk => NotOwned.nil))).mono (fun e w3 h => ⟨h.1, hw2.ext h.2⟩))))
    apply oop; rfl; apply Pev.not; rfl; exact yes
    apply OL.nx
    refine W.cond rfl (fun hd => ?_) (fun hd => ?_)
    · apply W.sr
      apply oas; rfl; rfl
      apply OL.nx
      refine W.rt ?_
      ((with_reducible apply At.fin1); rfl; rfl; intro w' hw')
      have hd2 : ¬ p.1 = p2.1 := by simpa using hd
      have : ¬ A.map Prod.fst = B.map Prod.fst := fun e => by
        have h1 : (A.map Prod.fst)[i]? = some p.1 := by rw [List.getElem?_map, hp]; rfl
        rw [e, List.getElem?_map, hp2] at h1
        exact hd2 (Option.some.inj h1).symm
      exact ⟨by rw [decide_eq_false this], by (exact hw'.fr)⟩
    · have hd2 : p.1 = p2.1 := by simpa using hd
      apply W.skip
      with_reducible apply At.in_normal
      with_reducible apply At.next
      apply W.reg
      apply obn; rfl; rfl; rfl; apply Bin.add_in; omega
      apply omv; rfl; rfl
      apply OL.nil
      refine At.again (i + 1) ⟨by omega, fun j hj => ?_⟩ (by omega) (by exact Sub.au) (fun w' hw' => hw')
      by_cases hji : j = i
      · subst hji
        rw [List.getElem?_map, List.getElem?_map, hp, hp2]
        simp [hd2]
      · exact hsame j (by omega)
  · refine W.xt ?_
    with_reducible apply At.next
    apply W.sr
    apply oas; rfl; rfl
    apply OL.nx
    apply W.ret
    ((with_reducible apply At.fin1); rfl; rfl; intro w' hw')
    have : A.map Prod.fst = B.map Prod.fst := List.ext_getElem? fun j => by
      rcases Nat.lt_or_ge j A.length with h | h
      · exact hsame j (by omega)
      · rw [List.getElem?_eq_none (by simp; omega), List.getElem?_eq_none (by simp; omega)]
    exact ⟨by rw [decide_eq_true this], by (exact hw'.fr)⟩
theorem lr_eql (a b c d : Int) : Bin Try.prog .eql 44 (.agg #[.int .i64 a, .int .i64 b, .int .i64 c, .int .i64 d]) (.agg #[.int .i64 a, .int .i64 b, .int .i64 c, .int .i64 d]) (.bool true) := ⟨fun x y w => by
  have h1 := run_eqGuard_agg (P := Try.prog) w .eql 44 x y #[.int .i64 a, .int .i64 b, .int .i64 c, .int .i64 d] #[.int .i64 a, .int .i64 b, .int .i64 c, .int .i64 d] (by kernel_rfl)
  rw [Sem.run_bind, h1, Result.andThen_ok, run_eql_struct, run_equalIn_agg w 9999 44 _ _ (by kernel_rfl) (by kernel_rfl)]
  have hf : Try.prog.fieldsOf 44 = (match Try.prog.underlying 44 with | some (.struct fs) => fs | _ => #[]) := rfl
  rw [hf, Try.underlying44]
  simp only [Op.eqFields]
  have p1 : ∀ (w : World) (i : Nat) (v : Value) (cs : Array Value) (t : TypeId), cs[i]? = some v → scalB Try.prog t = true → (part t cs i).run Try.prog w = .ok v w := fun w i v cs t hv ht => by
    simp [part, Sem.run_bind, run_isAgg_scal ht, hv]
  have q0 := fun w => p1 w 0 (.int .i64 a) #[.int .i64 a, .int .i64 b, .int .i64 c, .int .i64 d] 3 rfl rfl
  have q1 := fun w => p1 w 1 (.int .i64 b) #[.int .i64 a, .int .i64 b, .int .i64 c, .int .i64 d] 3 rfl rfl
  have q2 := fun w => p1 w 2 (.int .i64 c) #[.int .i64 a, .int .i64 b, .int .i64 c, .int .i64 d] 3 rfl rfl
  have q3 := fun w => p1 w 3 (.int .i64 d) #[.int .i64 a, .int .i64 b, .int .i64 c, .int .i64 d] 3 rfl rfl
  have e1 := fun w z => run_equalIn_int (P := Try.prog) w 9998 3 .i64 .i64 z z Try.underlying3
  simp [Sem.run_bind, q0, q1, q2, q3, e1]⟩
theorem lr_neq (a b c d : Int) : Bin Try.prog .neq 44 (.agg #[.int .i64 a, .int .i64 b, .int .i64 c, .int .i64 d]) (.agg #[.int .i64 a, .int .i64 b, .int .i64 c, .int .i64 d]) (.bool false) := ⟨fun x y w => by
  have h1 := run_eqGuard_agg (P := Try.prog) w .neq 44 x y #[.int .i64 a, .int .i64 b, .int .i64 c, .int .i64 d] #[.int .i64 a, .int .i64 b, .int .i64 c, .int .i64 d] (by kernel_rfl)
  rw [Sem.run_bind, h1, Result.andThen_ok, run_neq_struct, run_equalIn_agg w 9999 44 _ _ (by kernel_rfl) (by kernel_rfl)]
  have hf : Try.prog.fieldsOf 44 = (match Try.prog.underlying 44 with | some (.struct fs) => fs | _ => #[]) := rfl
  rw [hf, Try.underlying44]
  simp only [Op.eqFields]
  have p1 : ∀ (w : World) (i : Nat) (v : Value) (cs : Array Value) (t : TypeId), cs[i]? = some v → scalB Try.prog t = true → (part t cs i).run Try.prog w = .ok v w := fun w i v cs t hv ht => by
    simp [part, Sem.run_bind, run_isAgg_scal ht, hv]
  have q0 := fun w => p1 w 0 (.int .i64 a) #[.int .i64 a, .int .i64 b, .int .i64 c, .int .i64 d] 3 rfl rfl
  have q1 := fun w => p1 w 1 (.int .i64 b) #[.int .i64 a, .int .i64 b, .int .i64 c, .int .i64 d] 3 rfl rfl
  have q2 := fun w => p1 w 2 (.int .i64 c) #[.int .i64 a, .int .i64 b, .int .i64 c, .int .i64 d] 3 rfl rfl
  have q3 := fun w => p1 w 3 (.int .i64 d) #[.int .i64 a, .int .i64 b, .int .i64 c, .int .i64 d] 3 rfl rfl
  have e1 := fun w z => run_equalIn_int (P := Try.prog) w 9998 3 .i64 .i64 z z Try.underlying3
  simp [Sem.run_bind, q0, q1, q2, q3, e1]⟩
theorem liveWorks_calls (w : World) : Calls Try.prog 11 [].toArray w fun e w' => e = .returned (.bool true) ∧ Ext w w' := by
  refine enter Try.func11 rfl Try.ntmps11 rfl (Cls.start w) ?_
  (simp only [argEnv, Nat.zero_add, Nat.reduceAdd])
  apply W.sr
  apply oas; rfl; rfl
  apply OL.nsr
  apply oop; rfl; apply Pev.build; rfl; exact CellsL.agg; rfl; exact Fill.au; rfl
  apply oop; rfl; apply Pev.build; rfl; exact CellsL.agg; rfl; exact Fill.au; rfl
  apply OL.buildSlice; rfl; rfl; rfl; exact Elems.au; rfl; rfl; (intro bk hbk; simp only [AllLe, and_true] at hbk)
  apply oop; rfl; apply Pev.build; rfl; exact CellsL.agg; rfl; exact Fill.au; rfl
  apply oop; rfl; apply Pev.build; rfl; exact CellsL.agg; rfl; exact Fill.au; rfl
  apply OL.buildSlice; rfl; rfl; rfl; exact Elems.au; rfl; rfl; (intro bk hbk; simp only [AllLe, and_true] at hbk)
  apply oop; rfl; apply Pev.build; rfl; exact CellsL.agg; rfl; exact Fill.au; rfl
  apply OL.alloc; rfl; rfl; exact CellsL.agg; (intro bk hbk; simp only [AllLe, and_true] at hbk)
  apply OL.storeB; rfl; rfl; exact CellsL.agg; rfl; rfl; rfl; exact Swap.au; exact Put.au
  apply OL.nsr
  apply oop; rfl; apply Pev.load_blkA; rfl; exact yes; exact .head _; rfl; exact Take.au
  rename_i bI hbI bB hbB
  revert bk
  intro b1 hb1x
  have hbI1 : w.heap.size ≤ bI := by first | exact hbI | exact hbI.1
  have hbB1 : w.heap.size ≤ bB := by first | exact hbB | exact hbB.1
  have hb11 : w.heap.size ≤ b1 := by first | exact hb1x | exact hb1x.1
  refine OL.frz (C' := fun w0 => Cls [] [w0, w]) (fun w0 hc0 => (hc0.thin (.any (fun k hk => by rw [show k = b1 from hk]; exact ⟨hb11, trivial⟩) (.any (fun k hk => by rw [show k = bB from hk]; exact ⟨hbB1, trivial⟩) (.any (fun k hk => by rw [show k = bI from hk]; exact ⟨hbI1, trivial⟩) Thin.nil)))).note) (fun w0 hc0 => ?_)
  have hi1 := hc0.item (i := blk b1 24 [.int .i64 (-1), .slice (some ⟨bB, 0, none⟩) 1 1]) (by exact mau)
  have hb10 := blk_lt hi1
  have hc1 : CellsAt w0 ⟨b1, 0, none⟩ [.int .i64 (-1), .slice (some ⟨bB, 0, none⟩) 1 1] := fun j v hj => by rw [add_mid, blk_cell hi1, Nat.zero_add]; exact hj
  have hI : ArrP inR w0 (low w0) [⟨1, 0, 1, []⟩, ⟨2, 0, 2, []⟩] (some ⟨bI, 0, none⟩) := ⟨[(⟨1, 0, 1, []⟩, (none, 0)), (⟨2, 0, 2, []⟩, (none, 0))], rfl, arrBlk (e := 85) (hc0.item (by exact mau)) (fun p hp => by
    rcases List.mem_cons.1 hp with rfl | hp
    · exact ⟨by simp [I64], by simp [I64], by simp [I64], by simp, by simp, nilS _ _, fun n hn => (by cases hn)⟩
    · obtain rfl := List.mem_singleton.1 hp
      exact ⟨by simp [I64], by simp [I64], by simp [I64], by simp, by simp, nilS _ _, fun n hn => (by cases hn)⟩)⟩
  have hFn : FnOk w0 (low w0) lvx ⟨some ⟨bB, 0, none⟩, 1⟩ := ⟨by simp [lvx, I64], by simp [lvx], by simp [lvx], ⟨[(⟨[], [⟨1, 0, 1, []⟩, ⟨2, 0, 2, []⟩], ⟨0, 2, 0, [], []⟩⟩, ⟨(none, 0), (some ⟨bI, 0, none⟩, 2), ⟨(none, 0), (none, 0)⟩⟩)], rfl, arrBlk (e := 41) (hc0.item (by exact mau)) (fun p hp => by
    obtain rfl := List.mem_singleton.1 hp
    exact ⟨by simp, by simp, by simp, by simp, nilS _ _, fun n hn => (by cases hn), hI, ⟨by simp [I64], by simp [I64], by simp [I64], by simp, by simp, by simp, by simp, nilS _ _, fun n hn => (by cases hn), ArrP.nil⟩⟩)⟩⟩
  have hFt : ∀ (S : List World) (w2 : World), Cls [] S w2 → w0 ∈ S → FnOk w2 (low w2) lvx ⟨some ⟨bB, 0, none⟩, 1⟩ := fun S w2 hw2 hs => fnR.mono (hw2.up hs) (fnR.stab (hw2.same hs (fun k hk => NotOwned.nil)) hFn)
  refine OL.callE (α := ((Option Addr × Option Addr) × (Nat × Nat) × List (List Int × Sc) × List (List Int × Sc)) × World) (fun z => .tuple #[.slice z.1.1.1 1 z.1.2.1.1, .slice z.1.1.2 1 z.1.2.1.2, .int .i64 0]) (fun z => Arr intsR z.2 (low z.2) z.1.2.2.1 z.1.1.1 ∧ Arr intsR z.2 (low z.2) z.1.2.2.2 z.1.1.2 ∧ (z.1.2.2.1.length = 1 ∧ z.1.2.2.2.length = 1) ∧ z.1.2.2.1.map Prod.fst = [[]] ∧ z.1.2.2.2.map Prod.fst = [[2]]) (fun z => Cls [] [z.2, w0, w]) rfl rfl (by exact Args.au) (fun w2 hw2 => (Live_calls lvx ⟨some ⟨bB, 0, none⟩, 1⟩ w2 (hFt _ w2 hw2 (by exact mau))).mono fun e w3 ⟨h1, h2⟩ => ?_) ?_
  · rcases h2 with ⟨h2, _⟩ | ⟨_, qa, qb, ca, cb, A, B, h2, h3, h4, h5, h6, h7, h8⟩
    · exact absurd lvx_ok h2
    · rw [lvx_fresh] at h7 h8
      refine ⟨(((qa, qb), (ca, cb), A, B), w3), h2, ⟨h3, h4, ⟨h5, h6⟩, ?_, ?_⟩, (hw2.ext h1).note⟩
      · match A, h5, h7 with
        | [p], _, h7 => simp only [List.map_cons, List.map_nil]; rw [h7 0 p rfl, lvx_first]
      · match B, h6, h8 with
        | [p], _, h8 => simp only [List.map_cons, List.map_nil]; rw [h8 0 p _ rfl rfl]; exact congrArg (fun x => [x]) lvx_last
  rintro ⟨⟨⟨qa, qb⟩, ⟨ca, cb⟩, A, B⟩, wA⟩ ⟨hA, hB, ⟨hAl, hBl⟩, hAm, hBm⟩
  simp only at hA hB hAl hBl hAm hBm ⊢
  apply omv; rfl; rfl
  apply oex; rfl; rfl; rfl
  apply oex; rfl; rfl; rfl
  apply oex; rfl; rfl; rfl
  apply oas; rfl; rfl
  apply oas; rfl; rfl
  apply oas; rfl; rfl
  apply OL.nsr
  apply oop; rfl; apply Pev.load_keptA; rfl; exact yes; exact .tail _ (.head _); rfl; intro hcond; assumption; rfl; intro hcond; assumption; intro hcond; exact NotOwned.au
  refine OL.callE (α := (Option Addr × Nat) × World) (fun z => .tuple #[.slice z.1.1 1 z.1.2, .int .i64 0]) (fun z => SlAt z.2 z.2.heap.size z.1.1 [.int .i64 2, .int .i64 0, .int .i64 2, .int .i64 2] ∧ wA.heap.size ≤ z.2.heap.size) (fun z => Cls [] [z.2, wA, w0, w]) rfl rfl (by exact Args.au) (fun w2 hw2 => (Ranges_calls lvx ⟨some ⟨bB, 0, none⟩, 1⟩ w2 (hFt _ w2 hw2 (by exact mau))).mono fun e w3 ⟨h1, h2⟩ => ?_) ?_
  · rcases h2 with ⟨h2, _⟩ | ⟨_, q, c, h2, h3⟩
    · exact absurd lvx_ok h2
    · rw [lvx_fresh, lvx_ranges] at h2 h3
      exact ⟨((q, c), w3), h2, ⟨h3, (((hw2.ext h1).kp wA (by exact mau)).size)⟩, (hw2.ext h1).note⟩
  rintro ⟨⟨ql, cl⟩, wR⟩ ⟨hR, hwAR⟩
  simp only at hR hwAR ⊢
  obtain ⟨al, rfl, halb, halc⟩ := hR (by simp)
  have hA1 : ∀ p ∈ A, p.1.length ≤ 1000000 := fun p hp => by
    have h1 : p.1 ∈ A.map Prod.fst := List.mem_map_of_mem hp
    rw [hAm] at h1
    rw [List.mem_singleton.1 h1]; simp
  have hB1 : ∀ p ∈ B, p.1.length ≤ 1000000 := fun p hp => by
    have h1 : p.1 ∈ B.map Prod.fst := List.mem_map_of_mem hp
    rw [hBm] at h1
    rw [List.mem_singleton.1 h1]; simp
  have hS1 := fun w2 b (h : Arr intsR w2 (low w2) A qa) (h2 : Arr intsR w2 (low w2) [([], (none, 0))] (some ⟨b, 0, none⟩)) => SameRows_calls qa (some ⟨b, 0, none⟩) ca 1 A [([], (none, 0))] w2 h h2 (by omega) (by simp) hA1 (by simp)
  have hS2 := fun w2 b b2 (h : Arr intsR w2 (low w2) B qb) (h2 : Arr intsR w2 (low w2) [([2], (some (⟨b2, 0, none⟩ : Addr), 1))] (some ⟨b, 0, none⟩)) => SameRows_calls qb (some ⟨b, 0, none⟩) cb 1 B [([2], (some ⟨b2, 0, none⟩, 1))] w2 h h2 (by omega) (by simp) hB1 (by simp)
  simp only [hAl, hAm] at hS1
  simp only [hBl, hBm] at hS2
  apply omv; rfl; rfl
  apply oex; rfl; rfl; rfl
  apply oex; rfl; rfl; rfl
  apply oas; rfl; rfl
  apply oas; rfl; rfl
  apply OL.nsr
  apply omv; rfl; rfl
  apply obn; rfl; rfl; rfl; apply Bin.eql
  apply omv; rfl; rfl
  apply oy; rfl; rfl; rfl; apply Pev.move; rfl; exact yes
  ((apply OL.ungate); (exact Guard.au); (decide))
  apply OL.buildSlice; rfl; rfl; rfl; exact Elems.au; rfl; rfl; (intro bk hbk; simp only [AllLe, and_true] at hbk)
  have hk1 : wA.heap.size ≤ bk := by have := hbk.1; omega
  have hk0 : w0.heap.size ≤ bk := hbk.2.2.1
  revert bk
  intro b29 hb29 hk1 hk0
  (((first | (with_reducible apply OL.op) | (with_reducible apply QL.op)); (exact Guard.au); rfl; rfl); (exact Pev.call (v := .bool true) rfl (by exact Args.au) (fun _ w2 hw2 => (hS1 w2 b29 (hA.at hw2 (by exact mau) (fun k hk => NotOwned.blk (by omega) NotOwned.nil)) (arrBlk (e := 35) (hw2.item (by exact mau)) (fun p hp => by rw [List.mem_singleton.1 hp]; exact nilS _ _))).mono (fun e w3 h => ⟨by rw [h.1]; rfl, hw2.ext h.2⟩))))
  apply oop; rfl; apply Pev.pick_and; rfl; exact yes; rfl; exact yes
  apply omv; rfl; rfl
  apply oy; rfl; rfl; rfl; apply Pev.move; rfl; exact yes
  ((apply OL.ungate); (exact Guard.au); (decide))
  apply OL.buildSlice; rfl; rfl; rfl; exact Elems.au; rfl; rfl; (intro bk hbk; simp only [AllLe, and_true] at hbk)
  have hk34 := hbk
  revert bk
  intro b34 hb34 hk34
  ((apply OL.ungate); (exact Guard.au); (decide))
  apply OL.buildSlice; rfl; rfl; rfl; exact Elems.au; rfl; rfl; (intro bk hbk; simp only [AllLe, and_true] at hbk)
  have hk35 := hbk
  revert bk
  intro b35 hb35 hk35
  have hA34 : wA.heap.size ≤ b34 := by have := hk34.1; omega
  have hA35 : wA.heap.size ≤ b35 := by have := hk35.1; omega
  (((first | (with_reducible apply OL.op) | (with_reducible apply QL.op)); (exact Guard.au); rfl; rfl); (exact Pev.call (v := .bool true) rfl (by exact Args.au) (fun _ w2 hw2 => (hS2 w2 b35 b34 (hB.at hw2 (by exact mau) (fun k hk => NotOwned.blk (by omega) (NotOwned.blk (by omega) (NotOwned.blk (by omega) NotOwned.nil)))) (arrBlk (e := 35) (hw2.item (by exact mau)) (fun p hp => by rw [List.mem_singleton.1 hp]; exact blkInts (e := 3) (hw2.item (by exact mau))))).mono (fun e w3 h => ⟨by rw [h.1]; rfl, hw2.ext h.2⟩))))
  apply oop; rfl; apply Pev.pick_and; rfl; exact yes; rfl; exact yes
  apply omv; rfl; rfl
  apply oy; rfl; rfl; rfl; apply Pev.move; rfl; exact yes
  apply oy; rfl; rfl; rfl; apply Pev.bin; rfl; exact yes; rfl; exact yes; intro hcond; apply Bin.eql
  apply oop; rfl; apply Pev.pick_and; rfl; exact yes; rfl; exact yes
  apply omv; rfl; rfl
  apply oy; rfl; rfl; rfl; apply Pev.move; rfl; exact yes
  apply oy; rfl; rfl; rfl; apply Pev.len_slice; rfl; exact yes; rfl
  apply oy; rfl; rfl; rfl; apply Pev.bin; rfl; exact yes; rfl; exact yes; intro hcond; apply Bin.eql
  apply oop; rfl; apply Pev.pick_and; rfl; exact yes; rfl; exact yes
  apply omv; rfl; rfl
  apply oy; rfl; rfl; rfl; apply Pev.move; rfl; exact yes
  apply oy; rfl; rfl; rfl; apply Pev.idx; rfl; exact yes; rfl; exact yes; rfl; rfl; intro hcond; (simp only [Bool.and_eq_true, Bool.or_eq_true, Bool.not_eq_true', decide_eq_true_eq, decide_eq_false_iff_not] at *; omega)
  apply oy; rfl; rfl; rfl; apply Pev.load_keptA; rfl; exact yes; exact .head _; rfl; intro hcond; assumption; rfl; intro hcond; assumption; intro hcond; exact NotOwned.au
  apply oy; rfl; rfl; rfl; apply Pev.build; rfl; exact CellsL.agg; rfl; exact Fill.au; rfl
  (((first | (with_reducible apply OL.op) | (with_reducible apply QL.op)); (exact Guard.au); rfl; rfl); (refine Pev.bin (r := .bool true) rfl (by (first | exact fun _ => rfl | exact fun h => h | (intro h; simp_all; done))) rfl (by (first | exact fun _ => rfl | exact fun h => h | (intro h; simp_all; done))) (fun _ => lr_eql _ _ _ _)))
  apply oop; rfl; apply Pev.pick_and; rfl; exact yes; rfl; exact yes
  apply oas; rfl; rfl
  apply OL.nx
  apply W.ret
  ((with_reducible apply At.fin1); rfl; rfl; intro w' hw')
  exact ⟨rfl, hw'.toExt (by exact mau) (fun k hk => NotOwned.blk (by omega) (NotOwned.blk (by omega) (NotOwned.blk (by omega) NotOwned.nil)))⟩
end Go.Proofs.Ytehelljmaiophaa.ss

/- The walk of the law LiveRanges. Conditions: none. -/
namespace Go.Ss
open Go.Eng Go.RowKit
set_option linter.unusedVariables false
set_option linter.unusedSimpArgs false
theorem liveR_succ {bs : List Bk} {j k n : Nat} : liveL bs (j + 1) k n = liveL bs j k n ++ if liveB bs (j : Int) k n then [(j : Int)] else [] := by
  unfold liveL
  rw [List.range_succ, List.filter_append, List.map_append]
  congr 1
  cases h : liveB bs (j : Int) k n with
  | false => rw [List.filter_cons_of_neg (by simp only [h]; decide)]; rfl
  | true => rw [List.filter_cons_of_pos (by simpa using h)]; rfl
theorem liveR_len {bs : List Bk} {j k n : Nat} : (liveL bs j k n).length ≤ j := by
  unfold liveL
  rw [List.length_map]
  have := List.length_filter_le (fun v : Nat => liveB bs (v : Int) k n) (List.range j)
  simpa using this
theorem liveR_fresh {bs : List Bk} {F k n : Nat} (hb : Bnd bs F) : liveL bs (F + 1) k n = liveL bs F k n := by
  rw [liveR_succ, liveB_no (fun h => by have := live_bound hb h; omega)]
  simp
/-- the places ahead of place n at which a value is live -/
noncomputable def plP (bs : List Bk) (v k n : Nat) : List Nat := (List.range n).filter fun j => liveB bs (v : Int) k j
theorem plP_succ {bs : List Bk} {v k n : Nat} : plP bs v k (n + 1) = plP bs v k n ++ if liveB bs (v : Int) k n then [n] else [] := by
  unfold plP
  rw [List.range_succ, List.filter_append]
  congr 1
  cases h : liveB bs (v : Int) k n with
  | false => rw [List.filter_cons_of_neg (by simp only [h]; decide)]; rfl
  | true => rw [List.filter_cons_of_pos (by simpa using h)]; rfl
theorem plP_all {bs : List Bk} {v k len : Nat} : plcF bs v k 0 len = plP bs v k (len + 1) := by
  unfold plcF plP
  rw [List.range_eq_range']
  rfl
def frI : List Nat → Int
  | [] => -1
  | a :: _ => (a : Int)
def toI (l : List Nat) : Int := match l.getLast? with
  | none => -1
  | some a => (a : Int)
theorem toI_snoc (l : List Nat) (n : Nat) : toI (l ++ [n]) = (n : Int) := by simp [toI]
theorem frI_nil {l : List Nat} (h : frI l < 0) : l = [] := by
  cases l with
  | nil => rfl
  | cons a r => simp [frI] at h; omega
theorem frI_snoc {l : List Nat} (n : Nat) : frI (l ++ [n]) = if frI l < 0 then (n : Int) else frI l := by
  cases l with
  | nil => rfl
  | cons a r => rw [if_neg (by simp only [frI]; omega)]; rfl
theorem partOf_cons {v k : Nat} {l : List Nat} (h : ¬ frI l < 0) : ∃ a b : Nat, partOf v k l = [⟨v, k, a, b⟩] ∧ frI l = (a : Int) ∧ toI l = (b : Int) := by
  cases l with
  | nil => exact absurd (by decide) h
  | cons a r =>
    refine ⟨a, (a :: r).getLastD a, rfl, rfl, ?_⟩
    unfold toI
    rw [List.getLastD_eq_getLast?]
    cases hx : (a :: r).getLast? with
    | none => rw [List.getLast?_eq_none_iff] at hx; cases hx
    | some z => rfl
/-- the parts ahead of block k of value v -/
noncomputable def preR (bs : List Bk) (v k : Nat) : List Rg := ((List.range v).flatMap fun x => partsT bs x bs.length) ++ partsT bs v k
theorem preR_zero {bs : List Bk} {v : Nat} : preR bs (v + 1) 0 = preR bs v bs.length := by
  unfold preR
  rw [List.range_succ, List.flatMap_append]
  simp [partsT]
theorem preR_succ {bs : List Bk} {v k : Nat} {b : Bk} (hb : bs[k]? = some b) : preR bs v (k + 1) = preR bs v k ++ partOf v k (plP bs v k (b.ins.length + 1)) := by
  unfold preR
  rw [partsT_succ, List.getD_eq_getElem?_getD, hb, Option.getD_some, plP_all, List.append_assoc]
theorem preR_all {bs : List Bk} {F : Nat} : preR bs F 0 = (List.range F).flatMap fun x => partsT bs x bs.length := by
  unfold preR
  simp [partsT]
theorem preR_block {bs : List Bk} {v : Nat} : ∀ {k j : Nat}, k ≤ j → preR bs v k <+: preR bs v j := by
  intro k j h
  induction j with
  | zero =>
    obtain rfl : k = 0 := by omega
    exact List.prefix_refl _
  | succ j ih =>
    by_cases e : k = j + 1
    · subst e; exact List.prefix_refl _
    · refine (ih (by omega)).trans ?_
      unfold preR
      rw [partsT_succ, ← List.append_assoc]
      exact List.prefix_append _ _
theorem preR_val {bs : List Bk} {v u : Nat} (h : v ≤ u) : preR bs v 0 <+: preR bs u 0 := by
  induction u with
  | zero =>
    obtain rfl : v = 0 := by omega
    exact List.prefix_refl _
  | succ u ih =>
    by_cases e : v = u + 1
    · subst e; exact List.prefix_refl _
    · refine (ih (by omega)).trans ?_
      rw [preR_zero]
      exact preR_block (Nat.zero_le _)
theorem rangesL_fresh {bs : List Bk} {F : Nat} (hb : Bnd bs F) : rangesL bs (F + 1) = preR bs F 0 := by
  rw [preR_all]
  unfold rangesL
  rw [List.range_succ, List.flatMap_append]
  have h : partsT bs F bs.length = [] := by
    unfold partsT
    rw [List.flatMap_eq_nil_iff]
    intro j _
    have : plcF bs F j 0 (bs.getD j noB).ins.length = [] := by
      unfold plcF
      rw [List.filter_eq_nil_iff]
      intro n _
      rw [liveB_no (fun h => by have := live_bound hb h; omega)]
      decide
    rw [this]
    rfl
  simp [h]
/-- the part that comes next -/
theorem preR_next {bs : List Bk} {v k F : Nat} {b : Bk} {g : Rg} (hv : v < F) (hk : k < bs.length) (hb : bs[k]? = some b) (hg : partOf v k (plP bs v k (b.ins.length + 1)) = [g]) : (preR bs F 0)[(preR bs v k).length]? = some g := by
  have h1 : preR bs v (k + 1) <+: preR bs F 0 := ((preR_block (by omega : k + 1 ≤ bs.length)).trans (by rw [← preR_zero]; exact List.prefix_refl _)).trans (preR_val (by omega : v + 1 ≤ F))
  rw [preR_succ hb, hg] at h1
  obtain ⟨t, ht⟩ := h1
  rw [← ht]
  simp
end Go.Ss
namespace Go.Proofs.Ytehelljmaiophaa.ss
set_option maxRecDepth 100000
open Go.Eng Go.RowKit Go.Ss
set_option linter.unusedVariables false
set_option linter.unusedSimpArgs false
theorem liveRanges_law (fn : Go.Ss.Fn) (y : FnY) (w : World) (hfn : FnOk w (low w) fn y) :
    Calls Try.prog 3 [.agg (fnC fn y).toArray].toArray w fun e w' => e = .returned (.bool true) ∧ Ext w w' := by
  have hfn0 := hfn
  obtain ⟨es, hes, he⟩ := hfn.b
  obtain ⟨nm, bs⟩ := fn
  obtain ⟨q, cap⟩ := y
  have hbl := hfn.bl
  simp only at hes he hbl
  have hbl2 : bs.length = es.length := by rw [← hes, List.length_map]
  have hF : ∀ (H : List Eng.Item) (S : List World) (w2 : World), Cls H S w2 → w ∈ S → (∀ k, k < w.heap.size → NotOwned H k) → FnOk w2 (low w2) ⟨nm, bs⟩ ⟨q, cap⟩ := fun H S w2 hw2 hs hno => fnR.mono (hw2.up hs) (fnR.stab (hw2.same hs hno) hfn0)
  have hcC : (fnC ⟨nm, bs⟩ ⟨q, cap⟩) = [.int .i64 nm, .slice q es.length cap] := by simp only [fnC]; rw [hbl2]
  obtain ⟨er, her⟩ : ∃ er, funcE ⟨nm, bs⟩ = er := ⟨_, rfl⟩
  have hRa := fun w2 (H : List Eng.Item) (S : List World) hw2 hs hno => Ranges_calls ⟨nm, bs⟩ ⟨q, cap⟩ w2 (hF H S w2 hw2 hs hno)
  have hPr := fun w2 (H : List Eng.Item) (S : List World) hw2 hs hno => Pressure_calls ⟨nm, bs⟩ ⟨q, cap⟩ w2 (hF H S w2 hw2 hs hno)
  have hFe := fun w2 (H : List Eng.Item) (S : List World) hw2 hs hno => FuncErr_calls ⟨nm, bs⟩ ⟨q, cap⟩ w2 (hF H S w2 hw2 hs hno)
  have hFr := fun w2 (H : List Eng.Item) (S : List World) (hw2 : Cls H S w2) hs hno => Fresh_calls es q cap nm w2 (he.at (w := w) hw2 hs hno) (by omega)
  rw [hcC] at hRa hPr hFe ⊢
  simp only [her, hes] at hRa hPr hFe hFr
  refine enter Try.func3 rfl Try.ntmps3 rfl (Cls.start w) ?_
  (simp only [argEnv, Nat.zero_add, Nat.reduceAdd])
  apply W.sr
  apply OL.box; rfl; rfl; exact CellsL.agg; (intro bk hbk; simp only [AllLe, and_true] at hbk)
  apply oas; rfl; rfl
  apply OL.nx
  apply W.seq
  apply W.sr
  revert bk
  intro b3 hb3x
  have hb31 : w.heap.size ≤ b3 := by first | exact hb3x | exact hb3x.1
  refine OL.frz (C' := fun w0 => Cls [] [w0, w]) (fun w0 hc0 => (hc0.thin (.any (fun k hk => by rw [show k = b3 from hk]; exact ⟨hb31, trivial⟩) Thin.nil)).note) (fun w0 hc0 => ?_)
  have hi3 := hc0.item (i := blk b3 24 [.int .i64 nm, .slice q es.length cap]) (by exact mau)
  have hb30 := blk_lt hi3
  have hw0 : w.heap.size ≤ w0.heap.size := (hc0.kp w (.head _)).size
  have hc3 : CellsAt w0 ⟨b3, 0, none⟩ [.int .i64 nm, .slice q es.length cap] := fun j v hj => by rw [add_mid, blk_cell hi3, Nat.zero_add]; exact hj
  have hc31 : w0.cell? ⟨b3, 0 + 1, none⟩ = some (.slice q es.length cap) := hc3 1 _ rfl
  (((first | (with_reducible apply OL.op) | (with_reducible apply QL.op)); (exact Guard.au); rfl; rfl); (exact Pev.call (v := .bool true) rfl (by exact Args.au) (fun _ w2 hw2 => (liveWorks_calls w2).mono (fun e w3 h => ⟨h.1, hw2.ext h.2⟩))))
  apply oop; rfl; apply Pev.not; rfl; exact yes
  apply OL.nx
  refine W.cond rfl (fun h => by cases h) (fun _ => ?_)
  apply W.sk
  apply W.seq
  apply W.sr
  apply oop; rfl; apply Pev.load_keptA; rfl; exact yes; exact .head _; rfl; intro hcond; assumption; rfl; intro hcond; assumption; intro hcond; exact NotOwned.au
  (((first | (with_reducible apply OL.op) | (with_reducible apply QL.op)); (exact Guard.au); rfl; rfl); (exact Pev.call (v := .bool (decide (es.length ≤ 12) && decide (freshF bs ≤ 200))) rfl (by exact Args.au) (fun _ w2 hw2 => (few_calls es q cap nm w2 (he.at hw2 (by exact mau) (fun k hk => NotOwned.nil)) (by omega)).mono (fun e w3 h => ⟨by rw [h.1, hes], hw2.ext h.2⟩))))
  apply oop; rfl; apply Pev.not; rfl; exact yes
  apply omv; rfl; rfl
  apply ono; rfl; rfl; rfl; apply Pev.load_keptA; rfl; exact yes; exact .head _; rfl; intro hcond; assumption; rfl; intro hcond; assumption; intro hcond; exact NotOwned.au
  (((first | (with_reducible apply OL.op) | (with_reducible apply QL.op)); (exact Guard.au); rfl; rfl); (exact Pev.call (v := .int .i64 (freshF bs)) rfl (by exact Args.au) (fun _ w2 hw2 => (hFr w2 _ _ hw2 (by exact mau) (fun k hk => NotOwned.nil)).mono (fun e w3 h => ⟨h.1, hw2.ext h.2⟩))))
  apply ono; rfl; rfl; rfl; apply Pev.bin; rfl; exact fun h => h; rfl; exact yes; intro hcond; apply Bin.gtr
  apply oop; rfl; apply Pev.pick_or; rfl; exact yes; rfl; exact fun h => h
  apply omv; rfl; rfl
  apply ono; rfl; rfl; rfl; apply Pev.load_keptA; rfl; exact yes; exact .head _; rfl; intro hcond; assumption; rfl; intro hcond; assumption; intro hcond; exact NotOwned.au
  (((first | (with_reducible apply OL.op) | (with_reducible apply QL.op)); (exact Guard.au); rfl; rfl); (exact Pev.call (v := .int .i64 er) rfl (by exact Args.au) (fun _ w2 hw2 => (hFe w2 _ _ hw2 (by exact mau) (fun k hk => NotOwned.nil)).mono (fun e w3 h => ⟨h.1, hw2.ext h.2⟩))))
  apply ono; rfl; rfl; rfl; apply Pev.bin; rfl; exact fun h => h; rfl; exact yes; intro hcond; apply Bin.neq
  apply oop; rfl; apply Pev.pick_or; rfl; exact yes; rfl; exact fun h => h
  apply OL.nx
  refine W.cond rfl (fun h1 => ?_) (fun h1 => ?_)
  · apply W.sr
    apply oas; rfl; rfl
    apply OL.nx
    refine W.rt ?_
    ((with_reducible apply At.fin1); rfl; rfl; intro w' hw')
    exact ⟨rfl, hw'.fr (by exact mau) (fun k hk => NotOwned.nil)⟩
  obtain ⟨h12, h60, he0⟩ : es.length ≤ 12 ∧ freshF bs ≤ 60 ∧ er = 0 := by
    simp at h1
    omega
  subst he0
  obtain ⟨h0, h128, hs0⟩ := func_zero her
  simp only at h0 h128 hs0
  obtain ⟨hfr0, hfr1, hfrd⟩ := fresh_bounds hs0
  obtain ⟨F, hFF⟩ : ∃ F, (freshF bs).toNat = F := ⟨_, rfl⟩
  have hFI : freshF bs = (F : Int) := by omega
  have hbd := bnd_of her (m := F) (by omega)
  simp only [hFF, rangesL_fresh hbd] at hRa
  simp only [hFF] at hPr
  rw [hFI] at hFr h60
  obtain ⟨R, hR⟩ : ∃ R, preR bs F 0 = R := ⟨_, rfl⟩
  rw [hR] at hRa
  apply W.sk
  apply W.sr
  apply oop; rfl; apply Pev.load_keptA; rfl; exact yes; exact .head _; rfl; intro hcond; assumption; rfl; intro hcond; assumption; intro hcond; exact NotOwned.au
  refine OL.callE (α := (Option Addr × Nat) × World) (fun z => .tuple #[.slice z.1.1 R.length z.1.2, .int .i64 0]) (fun z => SlAt z.2 z.2.heap.size z.1.1 (cat rgC R) ∧ w0.heap.size ≤ z.2.heap.size ∧ w.heap.size ≤ z.2.heap.size) (fun z => Cls [] [z.2, w0, w]) rfl rfl (by exact Args.au) (fun w2 hw2 => (hRa w2 _ _ hw2 (by exact mau) (fun k hk => NotOwned.nil)).mono fun e w3 ⟨h2, h3⟩ => ?_) ?_
  · rcases h3 with ⟨h3, _⟩ | ⟨_, ql, cl, h4, h5⟩
    · exact absurd rfl h3
    · have hx := hw2.ext h2
      exact ⟨((ql, cl), w3), h4, ⟨h5, (hx.kp w0 (by exact mau)).size, (hx.kp w (by exact mau)).size⟩, hx.note⟩
  rintro ⟨⟨ql, cl⟩, wR⟩ ⟨hSl, hwR0, hwR⟩
  simp only at hSl hwR0 hwR ⊢
  apply omv; rfl; rfl
  apply oex; rfl; rfl; rfl
  apply oex; rfl; rfl; rfl
  apply oas; rfl; rfl
  apply oas; rfl; rfl
  apply OL.nsr
  apply oop; rfl; apply Pev.load_keptA; rfl; exact yes; exact .tail _ (.head _); rfl; intro hcond; assumption; rfl; intro hcond; assumption; intro hcond; exact NotOwned.au
  refine OL.callE (α := Nat) (fun x => .tuple #[.int .i64 (x : Int), .int .i64 0]) (fun x => Most bs (F + 1) x) (fun _ => Cls [] [wR, w0, w]) rfl rfl (by exact Args.au) (fun w2 hw2 => (hPr w2 _ _ hw2 (by exact mau) (fun k hk => NotOwned.nil)).mono fun e w3 ⟨h2, h3⟩ => ?_) ?_
  · rcases h3 with ⟨h3, _⟩ | ⟨_, x, h4, h5⟩
    · exact absurd rfl h3
    · exact ⟨x, h4, h5, hw2.ext h2⟩
  intro x hx
  apply omv; rfl; rfl
  apply oex; rfl; rfl; rfl
  apply oex; rfl; rfl; rfl
  apply oas; rfl; rfl
  apply oas; rfl; rfl
  apply OL.nsr
  apply oas; rfl; rfl
  apply oas; rfl; rfl
  apply OL.nx
  apply W.seq
  apply W.sr
  apply oop; rfl; apply Pev.load_keptA; rfl; exact yes; exact .tail _ (.head _); rfl; intro hcond; assumption; rfl; intro hcond; assumption; intro hcond; exact NotOwned.au
  (((first | (with_reducible apply OL.op) | (with_reducible apply QL.op)); (exact Guard.au); rfl; rfl); (exact Pev.call (v := .int .i64 (F : Int)) rfl (by exact Args.au) (fun _ w2 hw2 => (hFr w2 _ _ hw2 (by exact mau) (fun k hk => NotOwned.nil)).mono (fun e w3 h => ⟨h.1, hw2.ext h.2⟩))))
  apply omv; rfl; rfl
  apply OL.nx
  apply W.block
  have hAllR : ∀ x, wR.heap.size ≤ x → AllLe [wR, w0, w] x := fun x hx => ⟨hx, Nat.le_trans hwR0 hx, Nat.le_trans hwR hx, trivial⟩
  have hIs := fun (z : Int) (k n : Nat) (hk : k < es.length) w2 (H : List Eng.Item) (S : List World) (hw2 : Cls H S w2) hs hno => IsLive_calls es q cap nm z k n w2 (he.at (w := w) hw2 hs hno) (by omega) hk (by rw [hes]; exact hs0)
  simp only [hes] at hIs
  have hRl : R.length ≤ 1000 := by
    have h1 := flat_lenM (f := fun x => partsT bs x bs.length) (K := 12) (fun v => by have := partsT_len (bs := bs) (v := v) (k := bs.length); omega) (List.range F)
    rw [← preR_all, hR, List.length_range] at h1
    omega
  have hpl : ∀ v k, v < F → k ≤ es.length → (preR bs v k).length ≤ R.length := fun v k hv hk => by
    have h1 : preR bs v k <+: R := by
      rw [← hR]
      exact ((preR_block (by omega : k ≤ bs.length)).trans (by rw [← preR_zero]; exact List.prefix_refl _)).trans (preR_val (by omega : v + 1 ≤ F))
    exact h1.length_le
  refine W.loop (G := Nat) (fun v => v ≤ F) (fun v => F - v)
    (fun v => [(1, true, .pointer (some ⟨b3, 0, none⟩)), (3, true, .slice ql R.length cl), (4, true, .int .i64 0), (5, true, .int .i64 (x : Int)), (6, true, .int .i64 0), (7, true, .int .i64 ((preR bs v 0).length : Int)), (8, true, .int .i64 0), (46, true, .int .i64 (F : Int)), (47, true, .int .i64 (v : Int))])
    (fun _ => Cls [] [wR, w0, w]) 0 (by omega) (by exact Sub.au) (fun w' hw' => hw') ?_
  intro v hv
  apply W.sr
  apply obn; rfl; rfl; rfl; apply Bin.lss
  apply OL.nx
  apply W.seq
  (refine W.cnd (fun hlt => ?_) (fun hlt => ?_)) <;> (try (exfalso; first | omega | exact hlt trivial | contradiction))
  · have hvF : v < F := by omega
    apply W.sk
    apply W.sb
    apply W.sr
    apply omv; rfl; rfl
    apply oas; rfl; rfl
    apply OL.nsr
    apply ofa; rfl; rfl; rfl
    apply oop; rfl; apply Pev.load_kept; rfl; exact yes; exact .tail _ (.head _); rfl; intro hcond; assumption; intro hcond; assumption; intro hcond; exact NotOwned.au
    apply oop; rfl; apply Pev.len_slice; rfl; exact yes; rfl
    apply omv; rfl; rfl
    apply OL.nx
    apply W.block
    refine W.loop (G := Nat) (fun k => k ≤ es.length) (fun k => es.length - k)
      (fun k => [(1, true, .pointer (some ⟨b3, 0, none⟩)), (3, true, .slice ql R.length cl), (4, true, .int .i64 0), (5, true, .int .i64 (x : Int)), (6, true, .int .i64 0), (7, true, .int .i64 ((preR bs v k).length : Int)), (8, true, .int .i64 0), (9, true, .int .i64 (v : Int)), (46, true, .int .i64 (F : Int)), (47, true, .int .i64 (v : Int)), (51, true, .slice q es.length cap), (52, true, .int .i64 (es.length : Int)), (53, true, .int .i64 (k : Int))])
      (fun _ => Cls [] [wR, w0, w]) 0 (by omega) (by exact Sub.au) (fun w' hw' => hw') ?_
    intro k hk
    apply W.sr
    apply obn; rfl; rfl; rfl; apply Bin.lss
    apply OL.nx
    apply W.seq
    (refine W.cnd (fun hlt2 => ?_) (fun hlt2 => ?_)) <;> (try (exfalso; first | omega | exact hlt2 trivial | contradiction))
    · have hkl : k < es.length := by omega
      obtain ⟨a, p, hqa, hab, hp, hcell, hok⟩ := he.get hkl
      have hab : a.block < w.heap.size := hab
      have hcell : CellsAt w (a.add (k * 7)) [.slice p.2.p.1 p.1.params.length p.2.p.2, .slice p.2.i.1 p.1.ins.length p.2.i.2, .int .i64 p.1.term.kind, .int .i64 p.1.term.arg, .int .i64 p.1.term.n, .slice p.2.t.c.1 p.1.term.cases.length p.2.t.c.2, .slice p.2.t.t.1 p.1.term.to_.length p.2.t.t.2] := hcell
      have hkb : bs[k]? = some p.1 := by rw [← hes, List.getElem?_map, hp]; rfl
      have hil := hok.il
      have hIsk := fun z n => hIs z k n hkl
      subst hqa
      apply W.sk
      apply W.sb
      apply W.sr
      apply omv; rfl; rfl
      apply oop; rfl; apply Pev.idx; rfl; exact yes; rfl; exact yes; rfl; rfl; intro hcond; omega
      apply oop; rfl; apply Pev.load_keptA; rfl; exact yes; exact .tail _ (.tail _ (.head _)); rfl; intro hcond; assumption; rfl; intro hcond; (rw [add_block]; assumption); intro hcond; exact NotOwned.au
      apply OL.alloc; rfl; rfl; exact CellsL.agg; (intro bk hbk; simp only [AllLe, and_true] at hbk)
      apply oas; rfl; rfl
      apply OL.storeB; rfl; rfl; exact CellsL.agg; rfl; rfl; rfl; exact Swap.au; exact Put.au
      apply OL.nsr
      apply oas; rfl; rfl
      apply oas; rfl; rfl
      apply OL.nx
      apply W.seq
      apply W.sr
      apply oas; rfl; rfl
      apply OL.nx
      apply W.block
      revert bk
      intro b11 hb11
      have hb111 : wR.heap.size ≤ b11 := by first | exact hb11.1 | exact hb11
      refine W.loop (G := Nat) (fun n => n ≤ p.1.ins.length + 1) (fun n => p.1.ins.length + 1 - n)
        (fun n => [(1, true, .pointer (some ⟨b3, 0, none⟩)), (3, true, .slice ql R.length cl), (4, true, .int .i64 0), (5, true, .int .i64 (x : Int)), (6, true, .int .i64 0), (7, true, .int .i64 ((preR bs v k).length : Int)), (8, true, .int .i64 0), (9, true, .int .i64 (v : Int)), (10, true, .int .i64 (k : Int)), (11, true, .pointer (some ⟨b11, 0, none⟩)), (12, true, .int .i64 (frI (plP bs v k n))), (13, true, .int .i64 (toI (plP bs v k n))), (14, true, .int .i64 (n : Int)), (46, true, .int .i64 (F : Int)), (47, true, .int .i64 (v : Int)), (51, true, .slice (some a) es.length cap), (52, true, .int .i64 (es.length : Int)), (53, true, .int .i64 (k : Int))])
        (fun _ => Cls [blk b11 41 [.slice p.2.p.1 p.1.params.length p.2.p.2, .slice p.2.i.1 p.1.ins.length p.2.i.2, .int .i64 p.1.term.kind, .int .i64 p.1.term.arg, .int .i64 p.1.term.n, .slice p.2.t.c.1 p.1.term.cases.length p.2.t.c.2, .slice p.2.t.t.1 p.1.term.to_.length p.2.t.t.2]] [wR, w0, w]) 0 (by omega) (by exact Sub.au) (fun w' hw' => hw') ?_
      intro n hn
      apply W.seq
      apply W.sr
      apply omv; rfl; rfl
      apply ofa; rfl; rfl; rfl
      apply old; rfl; rfl; exact .head _; rfl; rfl
      apply oop; rfl; apply Pev.len_slice; rfl; exact yes; rfl
      apply obn; rfl; rfl; rfl; apply Bin.leq
      apply OL.nx
      (refine W.cnd (fun hlt3 => ?_) (fun hlt3 => ?_)) <;> (try (exfalso; first | omega | exact hlt3 trivial | contradiction))
      · have hnl : n ≤ p.1.ins.length := by omega
        have hps := plP_succ (bs := bs) (v := v) (k := k) (n := n)
        apply W.sk
        apply W.sb
        apply W.sr
        apply oop; rfl; apply Pev.load_keptA; rfl; exact yes; exact .tail _ (.head _); rfl; intro hcond; assumption; rfl; intro hcond; assumption; intro hcond; exact NotOwned.au
        apply omv; rfl; rfl
        apply omv; rfl; rfl
        apply omv; rfl; rfl
        (((first | (with_reducible apply OL.op) | (with_reducible apply QL.op)); (exact Guard.au); rfl; rfl); (exact Pev.call (v := .bool (liveB bs (v : Int) k n)) rfl (by exact Args.au) (fun _ w2 hw2 => (hIsk (v : Int) n w2 _ _ hw2 (by exact mau) (fun k hk => NotOwned.blk (by omega) NotOwned.nil)).mono (fun e w3 h => ⟨h.1, hw2.ext h.2⟩))))
        apply OL.nx
        cases hv1 : liveB bs (v : Int) k n with
        | true =>
          rw [hv1, if_pos rfl] at hps
          have hf1 := frI_snoc (l := plP bs v k n) n
          have ht1 := toI_snoc (plP bs v k n) n
          refine W.cond rfl (fun _ => ?_) (fun h => by cases h)
          apply W.seq
          apply W.sr
          apply omv; rfl; rfl
          apply obn; rfl; rfl; rfl; apply Bin.lss
          apply OL.nx
          refine W.cond rfl (fun h5 => ?_) (fun h5 => ?_)
          · rw [if_pos (of_decide_eq_true h5)] at hf1
            apply W.reg
            apply omv; rfl; rfl
            apply oas; rfl; rfl
            apply OL.nx
            apply W.reg
            apply omv; rfl; rfl
            apply oas; rfl; rfl
            apply OL.nil
            with_reducible apply At.in_normal
            with_reducible apply At.next
            apply W.reg
            apply omv; rfl; rfl
            apply obn; rfl; rfl; rfl; apply Bin.add_in; omega
            apply oas; rfl; rfl
            apply OL.nil
            exact At.again (n + 1) (by omega) (by omega) (by simp only [hps, hf1, ht1]; exact Sub.au) (fun w' hw' => hw')
          · rw [if_neg (of_decide_eq_false h5)] at hf1
            apply W.sk
            apply W.reg
            apply omv; rfl; rfl
            apply oas; rfl; rfl
            apply OL.nil
            with_reducible apply At.in_normal
            with_reducible apply At.next
            apply W.reg
            apply omv; rfl; rfl
            apply obn; rfl; rfl; rfl; apply Bin.add_in; omega
            apply oas; rfl; rfl
            apply OL.nil
            exact At.again (n + 1) (by omega) (by omega) (by simp only [hps, hf1, ht1]; exact Sub.au) (fun w' hw' => hw')
        | false =>
          rw [hv1, if_neg (by decide), List.append_nil] at hps
          refine W.cond rfl (fun h => by cases h) (fun _ => ?_)
          apply W.skip
          with_reducible apply At.in_normal
          with_reducible apply At.next
          apply W.reg
          apply omv; rfl; rfl
          apply obn; rfl; rfl; rfl; apply Bin.add_in; omega
          apply oas; rfl; rfl
          apply OL.nil
          exact At.again (n + 1) (by omega) (by omega) (by simp only [hps]; exact Sub.au) (fun w' hw' => hw')
      have hn1 : n = p.1.ins.length + 1 := by omega
      subst hn1
      have hpr := preR_succ (bs := bs) (v := v) hkb
      have hple := hpl v (k + 1) hvF (by omega)
      generalize hP : plP bs v k (p.1.ins.length + 1) = P at *
      refine W.xt ?_
      with_reducible apply At.next
      apply W.seq
      apply W.sr
      apply omv; rfl; rfl
      apply obn; rfl; rfl; rfl; apply Bin.lss
      apply OL.nx
      refine W.cond rfl (fun h5 => ?_) (fun h5 => ?_)
      · have hPn : P = [] := frI_nil (of_decide_eq_true h5)
        rw [hPn] at hpr
        simp only [partOf, List.append_nil] at hpr
        refine W.xt ?_
        with_reducible apply At.next
        apply W.reg
        apply obn; rfl; rfl; rfl; apply Bin.add_in; omega
        apply omv; rfl; rfl
        apply OL.nil
        exact At.again (k + 1) (by omega) (by omega) (by rw [hpr]; exact Sub.au) (fun w' hw' => hw'.thin (.any (fun k hk => by rw [show k = b11 from hk]; exact hAllR _ hb111) Thin.nil))
      · obtain ⟨fa, fb, hpo, hfa, hfb⟩ := partOf_cons (v := v) (k := k) (of_decide_eq_false h5)
        have hnx : R[(preR bs v k).length]? = some ⟨v, k, fa, fb⟩ := by
          rw [← hR]
          exact preR_next hvF (by omega) hkb (by rw [hP]; exact hpo)
        have hlt4 := (List.getElem?_eq_some_iff.1 hnx).1
        obtain ⟨al, ug, hql, halb, hug, hcg⟩ := SlAt.elem hSl rgC_len (by decide) hlt4
        rw [hnx] at hug
        obtain rfl := Option.some.inj hug
        have hcg : CellsAt wR (al.add ((preR bs v k).length * 4)) [.int .i64 (v : Int), .int .i64 (k : Int), .int .i64 (fa : Int), .int .i64 (fb : Int)] := hcg
        rw [hpo] at hpr
        rw [hfa, hfb]
        subst hql
        apply W.sk
        apply W.seq
        apply W.sr
        apply omv; rfl; rfl
        apply omv; rfl; rfl
        apply oop; rfl; apply Pev.len_slice; rfl; exact yes; rfl
        apply obn; rfl; rfl; rfl; apply Bin.geq
        apply omv; rfl; rfl
        apply ono; rfl; rfl; rfl; apply Pev.move; rfl; exact yes
        apply ono; rfl; rfl; rfl; apply Pev.move; rfl; exact yes
        apply ono; rfl; rfl; rfl; apply Pev.idx; rfl; exact fun h => h; rfl; exact fun h => h; rfl; rfl; intro hcond; omega
        apply ono; rfl; rfl; rfl; apply Pev.load_keptA; rfl; exact fun h => h; exact .head _; rfl; intro hcond; assumption; rfl; intro hcond; (rw [add_block]; assumption); intro hcond; exact NotOwned.au
        apply ono; rfl; rfl; rfl; apply Pev.move; rfl; exact yes
        apply ono; rfl; rfl; rfl; apply Pev.move; rfl; exact yes
        apply ono; rfl; rfl; rfl; apply Pev.move; rfl; exact yes
        apply ono; rfl; rfl; rfl; apply Pev.move; rfl; exact yes
        rw [show decide ((R.length : Int) ≤ ((preR bs v k).length : Int)) = false by simp; omega]
        ((apply OL.ungate); (exact Guard.au); (rfl))
        apply oop; rfl; apply Pev.build; rfl; exact CellsL.agg; rfl; exact Fill.au; rfl
        (((first | (with_reducible apply OL.op) | (with_reducible apply QL.op)); (exact Guard.au); rfl; rfl); (refine Pev.bin (r := .bool false) rfl (by (first | exact fun _ => rfl | exact fun h => h | (intro h; simp_all; done))) rfl (by (first | exact fun _ => rfl | exact fun h => h | (intro h; simp_all; done))) (fun _ => lr_neq _ _ _ _)))
        apply oop; rfl; apply Pev.pick_or; rfl; exact yes; rfl; exact yes
        apply OL.nx
        refine W.cond rfl (fun h6 => by simp at h6) (fun _ => ?_)
        apply W.sk
        apply W.reg
        apply omv; rfl; rfl
        apply obn; rfl; rfl; rfl; apply Bin.add_in; omega
        apply oas; rfl; rfl
        apply OL.nil
        with_reducible apply At.in_normal
        with_reducible apply At.next
        apply W.reg
        apply obn; rfl; rfl; rfl; apply Bin.add_in; omega
        apply omv; rfl; rfl
        apply OL.nil
        refine At.again (k + 1) (by omega) (by omega) (by rw [hpr]; simp only [List.length_append, List.length_cons, List.length_nil]; exact Sub.au) (fun w' hw' => hw'.thin (.any (fun k hk => by rw [show k = b11 from hk]; exact hAllR _ hb111) Thin.nil))
    · obtain rfl : k = es.length := by omega
      refine W.xt ?_
      with_reducible apply At.in_normal
      with_reducible apply At.next
      apply W.reg
      apply obn; rfl; rfl; rfl; apply Bin.add_in; omega
      apply omv; rfl; rfl
      apply OL.nil
      exact At.again (v + 1) (by omega) (by omega) (by rw [preR_zero, hbl2]; exact Sub.au) (fun w' hw' => hw')
  · obtain rfl : v = F := by omega
    rw [hR]
    refine W.xt ?_
    with_reducible apply At.next
    apply W.seq
    apply W.sr
    apply ofa; rfl; rfl; rfl
    apply oop; rfl; apply Pev.load_kept; rfl; exact yes; exact .tail _ (.head _); rfl; intro hcond; assumption; intro hcond; assumption; intro hcond; exact NotOwned.au
    apply oop; rfl; apply Pev.len_slice; rfl; exact yes; rfl
    apply omv; rfl; rfl
    apply OL.nx
    apply W.block
    have hlen := fun k n => liveR_len (bs := bs) (j := v) (k := k) (n := n)
    refine W.loop (G := Nat × Nat) (fun z => z.1 ≤ es.length ∧ z.2 ≤ 60 ∧ (∀ (k : Nat) (b : Bk) (n : Nat), k < z.1 → bs[k]? = some b → n ≤ b.ins.length → (liveL bs v k n).length ≤ z.2) ∧ (z.2 = 0 ∨ ∃ (k : Nat) (b : Bk) (n : Nat), bs[k]? = some b ∧ n ≤ b.ins.length ∧ z.2 = (liveL bs v k n).length)) (fun z => es.length - z.1)
      (fun z => [(1, true, .pointer (some ⟨b3, 0, none⟩)), (3, true, .slice ql R.length cl), (4, true, .int .i64 0), (5, true, .int .i64 (x : Int)), (6, true, .int .i64 0), (7, true, .int .i64 (R.length : Int)), (8, true, .int .i64 (z.2 : Int)), (97, true, .slice q es.length cap), (98, true, .int .i64 (es.length : Int)), (99, true, .int .i64 (z.1 : Int))])
      (fun _ => Cls [] [wR, w0, w]) (0, 0) ⟨by simp, by simp, fun k b n h => by simp at h, .inl rfl⟩ (by exact Sub.au) (fun w' hw' => hw') ?_
    rintro ⟨k, hi⟩ ⟨hk, hi60, hh1, hh2⟩
    simp only at hk hi60 hh1 hh2 ⊢
    apply W.sr
    apply obn; rfl; rfl; rfl; apply Bin.lss
    apply OL.nx
    apply W.seq
    (refine W.cnd (fun hlt2 => ?_) (fun hlt2 => ?_)) <;> (try (exfalso; first | omega | exact hlt2 trivial | contradiction))
    · have hkl : k < es.length := by omega
      obtain ⟨a, p, hqa, hab, hp, hcell, hok⟩ := he.get hkl
      have hab : a.block < w.heap.size := hab
      have hcell : CellsAt w (a.add (k * 7)) [.slice p.2.p.1 p.1.params.length p.2.p.2, .slice p.2.i.1 p.1.ins.length p.2.i.2, .int .i64 p.1.term.kind, .int .i64 p.1.term.arg, .int .i64 p.1.term.n, .slice p.2.t.c.1 p.1.term.cases.length p.2.t.c.2, .slice p.2.t.t.1 p.1.term.to_.length p.2.t.t.2] := hcell
      have hkb : bs[k]? = some p.1 := by rw [← hes, List.getElem?_map, hp]; rfl
      have hil := hok.il
      have hIsk := fun z n => hIs z k n hkl
      subst hqa
      apply W.sk
      apply W.sb
      apply W.sr
      apply omv; rfl; rfl
      apply oop; rfl; apply Pev.idx; rfl; exact yes; rfl; exact yes; rfl; rfl; intro hcond; omega
      apply oop; rfl; apply Pev.load_keptA; rfl; exact yes; exact .tail _ (.tail _ (.head _)); rfl; intro hcond; assumption; rfl; intro hcond; (rw [add_block]; assumption); intro hcond; exact NotOwned.au
      apply OL.alloc; rfl; rfl; exact CellsL.agg; (intro bk hbk; simp only [AllLe, and_true] at hbk)
      apply oas; rfl; rfl
      apply OL.storeB; rfl; rfl; exact CellsL.agg; rfl; rfl; rfl; exact Swap.au; exact Put.au
      apply OL.nsr
      apply oas; rfl; rfl
      apply OL.nx
      apply W.block
      revert bk
      intro b16 hb16
      have hb161 : wR.heap.size ≤ b16 := by first | exact hb16.1 | exact hb16
      refine W.loop (G := Nat × Nat) (fun z => z.1 ≤ p.1.ins.length + 1 ∧ z.2 ≤ 60 ∧ hi ≤ z.2 ∧ (∀ n, n < z.1 → (liveL bs v k n).length ≤ z.2) ∧ (z.2 = hi ∨ ∃ n, n ≤ p.1.ins.length ∧ z.2 = (liveL bs v k n).length)) (fun z => p.1.ins.length + 1 - z.1)
        (fun z => [(1, true, .pointer (some ⟨b3, 0, none⟩)), (3, true, .slice ql R.length cl), (4, true, .int .i64 0), (5, true, .int .i64 (x : Int)), (6, true, .int .i64 0), (7, true, .int .i64 (R.length : Int)), (8, true, .int .i64 (z.2 : Int)), (15, true, .int .i64 (k : Int)), (16, true, .pointer (some ⟨b16, 0, none⟩)), (17, true, .int .i64 (z.1 : Int)), (97, true, .slice (some a) es.length cap), (98, true, .int .i64 (es.length : Int)), (99, true, .int .i64 (k : Int))])
        (fun _ => Cls [blk b16 41 [.slice p.2.p.1 p.1.params.length p.2.p.2, .slice p.2.i.1 p.1.ins.length p.2.i.2, .int .i64 p.1.term.kind, .int .i64 p.1.term.arg, .int .i64 p.1.term.n, .slice p.2.t.c.1 p.1.term.cases.length p.2.t.c.2, .slice p.2.t.t.1 p.1.term.to_.length p.2.t.t.2]] [wR, w0, w]) (0, hi) ⟨by simp, hi60, Nat.le_refl _, fun n h => by simp at h, .inl rfl⟩ (by exact Sub.au) (fun w' hw' => hw') ?_
      rintro ⟨n, h2⟩ ⟨hn, h260, hh3, hh4, hh5⟩
      simp only at hn h260 hh3 hh4 hh5 ⊢
      apply W.seq
      apply W.sr
      apply omv; rfl; rfl
      apply ofa; rfl; rfl; rfl
      apply old; rfl; rfl; exact .head _; rfl; rfl
      apply oop; rfl; apply Pev.len_slice; rfl; exact yes; rfl
      apply obn; rfl; rfl; rfl; apply Bin.leq
      apply OL.nx
      (refine W.cnd (fun hlt3 => ?_) (fun hlt3 => ?_)) <;> (try (exfalso; first | omega | exact hlt3 trivial | contradiction))
      · have hnl : n ≤ p.1.ins.length := by omega
        apply W.sk
        apply W.sb
        apply W.sr
        apply oas; rfl; rfl
        apply OL.nx
        apply W.seq
        apply W.sr
        apply oop; rfl; apply Pev.load_keptA; rfl; exact yes; exact .tail _ (.head _); rfl; intro hcond; assumption; rfl; intro hcond; assumption; intro hcond; exact NotOwned.au
        (((first | (with_reducible apply OL.op) | (with_reducible apply QL.op)); (exact Guard.au); rfl; rfl); (exact Pev.call (v := .int .i64 (v : Int)) rfl (by exact Args.au) (fun _ w2 hw2 => (hFr w2 _ _ hw2 (by exact mau) (fun k hk => NotOwned.blk (by omega) NotOwned.nil)).mono (fun e w3 h => ⟨h.1, hw2.ext h.2⟩))))
        apply omv; rfl; rfl
        apply OL.nx
        apply W.block
        refine W.loop (G := Nat) (fun j => j ≤ v) (fun j => v - j)
          (fun j => [(1, true, .pointer (some ⟨b3, 0, none⟩)), (3, true, .slice ql R.length cl), (4, true, .int .i64 0), (5, true, .int .i64 (x : Int)), (6, true, .int .i64 0), (7, true, .int .i64 (R.length : Int)), (8, true, .int .i64 (h2 : Int)), (15, true, .int .i64 (k : Int)), (16, true, .pointer (some ⟨b16, 0, none⟩)), (17, true, .int .i64 (n : Int)), (18, true, .int .i64 ((liveL bs j k n).length : Int)), (97, true, .slice (some a) es.length cap), (98, true, .int .i64 (es.length : Int)), (99, true, .int .i64 (k : Int)), (112, true, .int .i64 (v : Int)), (113, true, .int .i64 (j : Int))])
          (fun _ => Cls [blk b16 41 [.slice p.2.p.1 p.1.params.length p.2.p.2, .slice p.2.i.1 p.1.ins.length p.2.i.2, .int .i64 p.1.term.kind, .int .i64 p.1.term.arg, .int .i64 p.1.term.n, .slice p.2.t.c.1 p.1.term.cases.length p.2.t.c.2, .slice p.2.t.t.1 p.1.term.to_.length p.2.t.t.2]] [wR, w0, w]) 0 (by omega) (by exact Sub.au) (fun w' hw' => hw') ?_
        intro j hj
        have hlj := liveR_len (bs := bs) (j := j) (k := k) (n := n)
        apply W.sr
        apply obn; rfl; rfl; rfl; apply Bin.lss
        apply OL.nx
        apply W.seq
        (refine W.cnd (fun hlt4 => ?_) (fun hlt4 => ?_)) <;> (try (exfalso; first | omega | exact hlt4 trivial | contradiction))
        · have hps := liveR_succ (bs := bs) (j := j) (k := k) (n := n)
          apply W.sk
          apply W.sb
          apply W.sr
          apply omv; rfl; rfl
          apply oas; rfl; rfl
          apply OL.nsr
          apply oop; rfl; apply Pev.load_keptA; rfl; exact yes; exact .tail _ (.head _); rfl; intro hcond; assumption; rfl; intro hcond; assumption; intro hcond; exact NotOwned.au
          apply omv; rfl; rfl
          apply omv; rfl; rfl
          apply omv; rfl; rfl
          (((first | (with_reducible apply OL.op) | (with_reducible apply QL.op)); (exact Guard.au); rfl; rfl); (exact Pev.call (v := .bool (liveB bs (j : Int) k n)) rfl (by exact Args.au) (fun _ w2 hw2 => (hIsk (j : Int) n w2 _ _ hw2 (by exact mau) (fun k hk => NotOwned.blk (by omega) NotOwned.nil)).mono (fun e w3 h => ⟨h.1, hw2.ext h.2⟩))))
          apply OL.nx
          cases hv1 : liveB bs (j : Int) k n with
          | true =>
            rw [hv1, if_pos rfl] at hps
            refine W.cond rfl (fun _ => ?_) (fun h => by cases h)
            apply W.reg
            apply omv; rfl; rfl
            apply obn; rfl; rfl; rfl; apply Bin.add_in; omega
            apply oas; rfl; rfl
            apply OL.nil
            with_reducible apply At.in_normal
            with_reducible apply At.next
            apply W.reg
            apply obn; rfl; rfl; rfl; apply Bin.add_in; omega
            apply omv; rfl; rfl
            apply OL.nil
            exact At.again (j + 1) (by omega) (by omega) (by simp only [hps, List.length_append, List.length_cons, List.length_nil]; exact Sub.au) (fun w' hw' => hw')
          | false =>
            rw [hv1, if_neg (by decide), List.append_nil] at hps
            refine W.cond rfl (fun h => by cases h) (fun _ => ?_)
            apply W.skip
            with_reducible apply At.in_normal
            with_reducible apply At.next
            apply W.reg
            apply obn; rfl; rfl; rfl; apply Bin.add_in; omega
            apply omv; rfl; rfl
            apply OL.nil
            exact At.again (j + 1) (by omega) (by omega) (by simp only [hps]; exact Sub.au) (fun w' hw' => hw')
        obtain rfl : j = v := by omega
        refine W.xt ?_
        with_reducible apply At.next
        apply W.reg
        apply omv; rfl; rfl
        apply omv; rfl; rfl
        apply oop; rfl; apply Pev.max2; rfl; exact yes; rfl; exact yes
        apply oas; rfl; rfl
        apply OL.nil
        with_reducible apply At.in_normal
        with_reducible apply At.next
        apply W.reg
        apply omv; rfl; rfl
        apply obn; rfl; rfl; rfl; apply Bin.add_in; omega
        apply oas; rfl; rfl
        apply OL.nil
        have hmx : (if (h2 : Int) < ((liveL bs j k n).length : Int) then ((liveL bs j k n).length : Int) else (h2 : Int)) = ((max h2 (liveL bs j k n).length : Nat) : Int) := by split <;> omega
        rw [hmx]
        have h60j : j ≤ 60 := by omega
        refine At.again (n + 1, max h2 (liveL bs j k n).length) ⟨by simp only; omega, by simp only; omega, by simp only; omega, fun n' hn' => ?_, ?_⟩ (by simp only; omega) (by exact Sub.au) (fun w' hw' => hw')
        · simp only at hn' ⊢
          by_cases e : n' = n
          · subst e; omega
          · have := hh4 n' (by omega); omega
        · simp only
          rcases Nat.le_total h2 (liveL bs j k n).length with h6 | h6
          · exact .inr ⟨n, hnl, Nat.max_eq_right h6⟩
          · rw [Nat.max_eq_left h6]; exact hh5
      have hn1 : n = p.1.ins.length + 1 := by omega
      subst hn1
      refine W.xt ?_
      with_reducible apply At.in_normal
      with_reducible apply At.next
      apply W.reg
      apply obn; rfl; rfl; rfl; apply Bin.add_in; omega
      apply omv; rfl; rfl
      apply OL.nil
      refine At.again (k + 1, h2) ⟨by simp only; omega, h260, fun k' b' n' h1 h3 h4 => ?_, ?_⟩ (by simp only; omega) (by exact Sub.au) (fun w' hw' => hw'.thin (.any (fun k hk => by rw [show k = b16 from hk]; exact hAllR _ hb161) Thin.nil))
      · simp only at h1 ⊢
        by_cases e : k' = k
        · subst e
          rw [hkb] at h3
          obtain rfl := Option.some.inj h3
          exact hh4 n' (by omega)
        · have := hh1 k' b' n' (by omega) h3 h4
          omega
      · simp only
        rcases hh5 with rfl | ⟨n', h1, h3⟩
        · exact hh2
        · exact .inr ⟨k, p.1, n', hkb, h1, h3⟩
    · obtain rfl : k = es.length := by omega
      have hxe : x = hi := by
        refine hx.uniq ?_
        refine ⟨fun k b n h1 h3 => ?_, ?_⟩
        · rw [liveR_fresh hbd]
          exact hh1 k b n (by rw [← hbl2]; exact (List.getElem?_eq_some_iff.1 h1).1) h1 h3
        · refine hh2.imp id fun ⟨k, b, n, h1, h3, h4⟩ => ⟨k, b, n, h1, h3, by rw [liveR_fresh hbd]; exact h4⟩
      subst hxe
      refine W.xt ?_
      with_reducible apply At.next
      apply W.sr
      apply omv; rfl; rfl
      apply obn; rfl; rfl; rfl; apply Bin.eql
      apply omv; rfl; rfl
      apply oy; rfl; rfl; rfl; apply Pev.move; rfl; exact yes
      apply oy; rfl; rfl; rfl; apply Pev.bin; rfl; exact yes; rfl; exact yes; intro hcond; apply Bin.eql
      apply oop; rfl; apply Pev.pick_and; rfl; exact yes; rfl; exact yes
      apply omv; rfl; rfl
      apply oy; rfl; rfl; rfl; apply Pev.move; rfl; exact yes
      apply oy; rfl; rfl; rfl; apply Pev.move; rfl; exact yes
      apply oy; rfl; rfl; rfl; apply Pev.len_slice; rfl; exact yes; rfl
      apply oy; rfl; rfl; rfl; apply Pev.bin; rfl; exact yes; rfl; exact yes; intro hcond; apply Bin.eql
      apply oop; rfl; apply Pev.pick_and; rfl; exact yes; rfl; exact yes
      apply omv; rfl; rfl
      apply oy; rfl; rfl; rfl; apply Pev.move; rfl; exact yes
      apply oy; rfl; rfl; rfl; apply Pev.move; rfl; exact yes
      apply oy; rfl; rfl; rfl; apply Pev.bin; rfl; exact fun h => h; rfl; exact fun h => h; intro hcond; apply Bin.eql
      apply oop; rfl; apply Pev.pick_and; rfl; exact yes; rfl; exact fun h => h
      apply oas; rfl; rfl
      apply OL.nx
      apply W.ret
      ((with_reducible apply At.fin1); rfl; rfl; intro w' hw')
      exact ⟨by simp, hw'.fr (by exact mau) (fun k hk => NotOwned.nil)⟩
end Go.Proofs.Ytehelljmaiophaa.ss

/- Readings with the reach: what a slice's and a struct's parts are, and how much they weigh at most. General. No condition. -/
namespace Go.Eng
open Go.RowKit Go.ChangeShapes Go.WideShapes Go.ChangeAt
set_option linter.unusedVariables false
set_option linter.unusedSimpArgs false
section
variable {H : Type} {enc : TypeId × Value → H} {P : Program} {w : World} {spare : Nat → Bool} {held : Bool}

/-- a datum within reach -/
def Lt (P : Program) (t : TypeId) (d : DataW H) : Prop := ∀ n ∈ d.weights P t, n ≤ reachBytes
theorem weightsAll_mem {e : TypeId} : ∀ {ds : List (DataW H)} {d : DataW H}, d ∈ ds → ∀ n ∈ d.weights P e, n ∈ DataW.weightsAll P e ds
  | x :: ds, d, hd, n, hn => by
    simp only [DataW.weightsAll, List.mem_append]
    rcases List.mem_cons.1 hd with rfl | hd
    · exact .inl hn
    · exact .inr (weightsAll_mem hd n hn)
theorem Lt.arg {ts : List TypeId} {ds : List (DataW H)} (h : (DataW.weightsEach P ts ds).all (· ≤ reachBytes) = true) {j : Nat} {t : TypeId} {d : DataW H} (ht : ts[j]? = some t) (hd : ds[j]? = some d) : Lt P t d := fun n hn => by
  have := List.all_eq_true.1 h _ (DataW.weights_mem_each ht hd n hn)
  simpa using this
theorem Lt.str {t : TypeId} {b : List UInt8} (h : Lt (H := H) P t (.lit (.string b))) : b.length ≤ reachBytes := h b.length (by simp [DataW.weights])

/-- a struct that reads -/
theorem rd_struct {t : TypeId} {fs : Array Field} {fuel : Nat} {cs : List Value} {x : DataW H × List MemPlace} (ht : P.underlying t = some (.struct fs)) (h : DataW.trod enc P w 0 spare held fuel t cs = some x) (hw : Lt P t x.1) :
    cs.length = P.cellsOf t ∧ ∃ n, n < fuel ∧ ∀ (i : Nat) (f : Field), fs[i]? = some f → ∃ y, DataW.trod enc P w 0 spare held n f.type ((cs.drop f.offset).take (P.cellsOf f.type)) = some y ∧ Lt P f.type y.1 := by
  obtain ⟨xs, n, hfu, rfl, hlen, hxl, hf⟩ := DataW.trod_struct ht h
  refine ⟨hlen, n, by omega, fun i f hi => ?_⟩
  have hlt : i < xs.length := by rw [hxl]; exact (Array.getElem?_eq_some_iff.1 hi).1
  refine ⟨xs[i], by rw [hf i f hi, List.getElem?_eq_getElem hlt], fun k hk => hw k ?_⟩
  simp only [DataW.weights, ht]
  exact DataW.weights_mem_each (j := i) (t := f.type) (d := xs[i].1) (by simpa using ⟨f, by simpa using hi, rfl⟩) (by simp [hlt]) k hk
/-- a slice that reads -/
theorem rd_slice0 {t e : TypeId} {sz fuel : Nat} {cs : List Value} {x : DataW H × List MemPlace} (ht : P.underlying t = some (.slice e)) (hs : P.cellsOf e = sz) (h : DataW.trod enc P w 0 spare held fuel t cs = some x) (hw : Lt P t x.1) :
    ∃ (q : Option Addr) (len cap : Nat), cs = [.slice q len cap] ∧ len ≤ cap ∧ cap ≤ maxLen ∧ len * P.bytesOf e ≤ reachBytes ∧ (q = none → len = 0) ∧
      ∃ n, n < fuel ∧ ∀ a, q = some a → ∀ i, i < len → ∃ cs' y, CellsAt w (a.add (i * sz)) cs' ∧ cs'.length = sz ∧ DataW.trod enc P w 0 spare held n e cs' = some y ∧ Lt P e y.1 := by
  rcases DataW.trod_slice ht h with ⟨rfl, _⟩ | ⟨a, len, cap, elems, rest, n, hf, rfl, rfl, _, hl, hm, hlen, hel, _, _⟩
  · refine ⟨none, 0, 0, rfl, Nat.le_refl _, by simp [maxLen], by simp, fun _ => rfl, 0, ?_, fun a ha => by cases ha⟩
    cases fuel with
    | zero => simp [DataW.trod] at h
    | succ n => omega
  · have hwt : len * P.bytesOf e ≤ reachBytes := by
      have h1 := hw ((elems.map (·.1)).length * P.bytesOf e + (rest.map (·.1)).length * P.bytesOf e) (by simp [DataW.weights, ht, Nat.add_mul])
      rw [List.length_map, hlen] at h1
      omega
    refine ⟨some a, len, cap, rfl, hl, hm, hwt, (fun hn => by cases hn), n, by omega, fun a' ha i hi => ?_⟩
    obtain rfl := Option.some.inj ha
    have h1 := hel i hi
    rw [List.getElem?_eq_getElem (by omega)] at h1
    rw [hs] at h1
    obtain ⟨cs', hc, ht'⟩ := Option.bind_eq_some_iff.1 h1
    obtain ⟨h2, h3⟩ := cellsAt_of hc
    refine ⟨cs', _, h2, h3, ht', fun k hk => hw k ?_⟩
    simp only [DataW.weights, ht]
    exact List.mem_cons_of_mem _ (List.mem_append_left _ (weightsAll_mem (d := elems[i].1) (List.mem_map.2 ⟨_, List.getElem_mem (by omega), rfl⟩) k hk))
variable {α : Type} {f : α → List Value} {sz : Nat} {R : α → Prop}
/-- a slice whose elements read, as a list -/
theorem rd_slice {t e : TypeId} {fuel : Nat} {cs : List Value} {x : DataW H × List MemPlace} (ht : P.underlying t = some (.slice e)) (hs : P.cellsOf e = sz) (hsz : 0 < sz) (hf : ∀ x, (f x).length = sz)
    (he : ∀ (n : Nat) (cs' : List Value) (y : DataW H × List MemPlace), n < fuel → DataW.trod enc P w 0 spare held n e cs' = some y → Lt P e y.1 → ∃ u : α, cs' = f u ∧ R u)
    (h : DataW.trod enc P w 0 spare held fuel t cs = some x) (hw : Lt P t x.1) :
    ∃ (q : Option Addr) (l : List α) (cap : Nat), cs = [.slice q l.length cap] ∧ l.length ≤ cap ∧ cap ≤ maxLen ∧ l.length * P.bytesOf e ≤ reachBytes ∧ SlAt w w.heap.size q (cat f l) ∧ ∀ u ∈ l, R u := by
  obtain ⟨q, len, cap, rfl, hle, hcap, hwt, hq0, m, hm, hel⟩ := rd_slice0 ht hs h hw
  cases q with
  | none =>
    obtain rfl := hq0 rfl
    exact ⟨none, [], cap, rfl, hle, hcap, by simp, SlAt.nil, fun u hu => by cases hu⟩
  | some a =>
    obtain ⟨l, hl, hr⟩ := list_of (fun i (u : α) => CellsAt w (a.add (i * sz)) (f u) ∧ R u) len (fun i hi => by
      obtain ⟨cs', y, hc, hl1, ht', hy⟩ := hel a rfl i hi
      obtain ⟨u, rfl, hR⟩ := he m cs' y hm ht' hy
      exact ⟨u, hc, hR⟩)
    subst hl
    refine ⟨some a, l, cap, rfl, hle, hcap, hwt, fun hv => ⟨a, rfl, ?_, fun j v hj => ?_⟩, fun u hu => ?_⟩
    · rw [cat_length hf] at hv
      have hl0 : 0 < l.length := Nat.pos_of_mul_pos_right hv
      have h0 := (hr 0 _ (List.getElem?_eq_getElem hl0)).1
      rw [Nat.zero_mul, add_zero_] at h0
      have hz : 0 < (f l[0]).length := by rw [hf]; exact hsz
      have := h0 0 _ (List.getElem?_eq_getElem hz)
      rw [add_zero_] at this
      exact cell_lt this
    · have hjl := (List.getElem?_eq_some_iff.1 hj).1
      rw [cat_length hf] at hjl
      have hi : j / sz < l.length := Nat.div_lt_of_lt_mul (by rwa [Nat.mul_comm] at hjl)
      have h0 := (hr (j / sz) _ (List.getElem?_eq_getElem hi)).1
      have hm' : j % sz < (f l[j / sz]).length := by rw [hf]; exact Nat.mod_lt _ hsz
      have h1 := cat_get hf (List.getElem?_eq_getElem hi) (j % sz) _ (List.getElem?_eq_getElem hm')
      have ej : j / sz * sz + j % sz = j := by rw [Nat.mul_comm]; exact Nat.div_add_mod j sz
      rw [ej, hj] at h1
      have h2 := h0 (j % sz) _ (List.getElem?_eq_getElem hm')
      rw [add_add, ej] at h2
      rw [h2, h1]
    · obtain ⟨i, hi, rfl⟩ := List.getElem_of_mem hu
      exact (hr i _ (List.getElem?_eq_getElem hi)).2
end
end Go.Eng
