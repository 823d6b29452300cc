/- Texts of the proof of MatchFirst, part 3: rules of a calculus for walking, plain laws, and walks of the functions that the law reaches. No condition. -/
import Derived.Test.YtleggdmhihcafaaProg
import Derived.Shelf.SlGeneric
import Derived.Shelf.Spec.SlicesGrow
import Derived.Ground.Names8Prog
import Derived.Test.YtleggdmhihcafaaMatchFirst2
set_option linter.unusedVariables false
set_option linter.unusedSimpArgs false
set_option linter.unusedSectionVars false
/- The walk of match.narrow. Conditions: none. -/
namespace Go.Pt
open Go.Eng Go.RowKit
abbrev RowE := Int × List (Ty × PY) × PY
def rowC (r : RowE) : List Value := [.int .i64 r.1, .slice r.2.2.1 r.2.1.length r.2.2.2]
theorem rowC_len (r : RowE) : (rowC r).length = 2 := rfl
def rowP (r : RowE) : RowP := (r.1, r.2.1.map Prod.fst)
def InL (L : List (Addr × List Value)) (q : Option Addr) (vs : List Value) : Prop := 0 < vs.length → ∃ a, q = some a ∧ (a, vs) ∈ L
theorem InL.mono {L L' : List (Addr × List Value)} {q : Option Addr} {vs : List Value} (h : InL L q vs) (hL : ∀ x ∈ L, x ∈ L') : InL L' q vs := fun hl => by
 obtain ⟨a, h1, h2⟩ := h hl
 exact ⟨a, h1, hL _ h2⟩
theorem InL.fr {H : List Eng.Item} {S : List World} {w w' : World} {O : Nat → Prop} {L : List (Addr × List Value)} {q : Option Addr} {vs : List Value} (h : InL L q vs) (hw : Cls H S w') (ha : arena w.heap.size O L ∈ H) : FrS w w' vs q := fun hl => by
 obtain ⟨a, h1, h2⟩ := h hl
 obtain ⟨h3, h4⟩ := hw.item ha _ h2
 exact ⟨a, h1, ⟨h3.1, hw.lt _ ha _ h3⟩, h4⟩
structure RowOk (s w : World) (r : RowE) : Prop where
 sl : SlAt w w.heap.size r.2.2.1 (cat tyR.c r.2.1)
 cap : r.2.1.length ≤ r.2.2.2
 len : r.2.1.length ≤ 100000
 el : ∀ z ∈ r.2.1, TyO s (low s) z.1 z.2
 ar : ∀ z ∈ r.2.1, free z.1 = false → z.1.args.length ≤ 100000
theorem RowOk.ext {s w w' : World} {r : RowE} (h : RowOk s w r) (hx : Ext w w') : RowOk s w' r := ⟨SlAt.extS h.sl hx, h.cap, h.len, h.el, h.ar⟩
structure Old (s w : World) : Prop where
 le : s.heap.size ≤ w.heap.size
 bl : ∀ k, k < s.heap.size → w.heap[k]? = s.heap[k]?
theorem Old.ext {s w w' : World} (h : Old s w) (hx : Ext w w') : Old s w' := ⟨Nat.le_trans h.le hx.size, fun k hk => by rw [hx.block k (Nat.lt_of_lt_of_le hk h.le) id, h.bl k hk]⟩
theorem Old.ty {s w : World} (h : Old s w) {t : Ty} {y : PY} (ht : TyO s (low s) t y) : TyO w (low w) t y := TyO.mono (fun k hk => Nat.lt_of_lt_of_le hk h.le) (TyO.stab (fun k hk => h.bl k hk) ht)
theorem Old.arr {s w : World} (h : Old s w) {l : List (Ty × PY)} {q : Option Addr} (ht : Arr tyR s (low s) l q) : Arr tyR w (low w) l q := Arr.mono (fun k hk => Nat.lt_of_lt_of_le hk h.le) (Arr.stab (fun k hk => h.bl k hk) ht)
theorem Cls.old {H : List Eng.Item} {S : List World} {s w : World} (h : Cls H S w) (hs : s ∈ S) (hno : ∀ k, k < s.heap.size → NotOwned H k) : Old s w := ⟨(h.kp s hs).size, fun k hk => h.same hs hno k hk⟩
structure GN where
 O : Nat → Prop
 q : Option Addr
 c : Nat
 ps : List RowE
 OA : Nat → Prop
 L : List (Addr × List Value)
end Go.Pt
namespace Go.Proofs.Ytleggdmhihcafaa.pt
open Go.RowKit Go.Eng Go.Pt
set_option maxRecDepth 100000
theorem mfree_calls (p : Ty) (y : PY) (w : World) : Calls Try.prog 49 [.agg (tyc p y).toArray].toArray w fun e w' => e = .returned (.bool (free p)) ∧ Ext w w' := by
 refine enter Try.func49 rfl Try.ntmps49 rfl (Cls.start w) ?_
 (simp only [argEnv, Nat.zero_add, Nat.reduceAdd])
 simp only [tyc]
 apply W.sr
 apply OL.box; rfl; rfl; exact CellsL.agg; (intro bk hbk; simp only [AllLe, and_true] at hbk)
 apply oas; rfl; rfl
 apply OL.nsr
 apply ofa; rfl; rfl; rfl
 apply old; rfl; rfl; exact .head _; rfl; rfl
 apply obn; rfl; rfl; rfl; apply Bin.eql
 apply omv; rfl; rfl
 apply ono; rfl; rfl; rfl; apply Pev.fld; rfl; exact yes; rfl
 apply ono; rfl; rfl; rfl; apply Pev.load_blk; rfl; exact fun h => h; exact .head _; rfl; rfl
 apply ono; rfl; rfl; rfl; apply Pev.bin; rfl; exact fun h => h; rfl; exact yes; intro hcond; apply Bin.eql
 apply oop; rfl; apply Pev.pick_or; rfl; exact yes; rfl; exact fun h => h
 apply oas; rfl; rfl
 apply OL.nx
 apply W.ret
 ((with_reducible apply At.fin1); rfl; rfl; intro w' hw')
 refine ⟨congrArg (fun b => Ending.returned (Value.bool b)) ?_, by (exact hw'.fr)⟩
 unfold free
 cases h : decide (p.kind = 0) <;> simp
theorem mnarrow_calls (s : World) (q : Option Addr) (cap at_ many : Nat) (rs : List RowE) (f : FuncId) (first caps : List Value) (is : Ty → Bool) (w : World) (hold : Old s w) (hlen : rs.length ≤ 1000) (hmany : many ≤ 100000) (h : SlAt w w.heap.size q (cat rowC rs)) (hr : ∀ r ∈ rs, RowOk s w r) (hat : ∀ r ∈ rs, at_ < r.2.1.length)
  (hf : callable Try.prog f = true) (hp : ∀ (z : Ty × PY) w', Ext w w' → Calls Try.prog f (first ++ [Value.agg (tyc z.1 z.2).toArray] ++ caps).toArray w' fun e w'' => e = .returned (.bool (is z.1)) ∧ Ext w' w'') :
  Calls Try.prog 54 [.slice q rs.length cap, .int .i64 (at_ : Int), .func (.func f) first.toArray caps.toArray, .int .i64 (many : Int)].toArray w fun e w' => ∃ (q' : Option Addr) (c' : Nat) (rs' : List RowE), e = .returned (.slice q' rs'.length c') ∧ rs'.map rowP = narrowM at_ is many (rs.map rowP) ∧ rs'.length ≤ rs.length ∧ FrS w w' (cat rowC rs') q' ∧ (∀ r ∈ rs', FrS w w' (cat tyR.c r.2.1) r.2.2.1 ∧ r.2.1.length ≤ r.2.2.2 ∧ ∀ z ∈ r.2.1, TyO s (low s) z.1 z.2) ∧ Ext w w' := by
 refine enter Try.func54 rfl Try.ntmps54 rfl (Cls.start w) ?_
 (simp only [argEnv, Nat.zero_add, Nat.reduceAdd])
 apply W.sr
 apply oas; rfl; rfl
 apply OL.nsr
 apply oas; rfl; rfl
 apply OL.nx
 apply W.seq
 apply W.sr
 apply omv; rfl; rfl
 apply oop; rfl; apply Pev.len_slice; rfl; exact yes; rfl
 apply omv; rfl; rfl
 apply OL.nx
 apply W.block
 refine W.loop (G := Nat × GN) (fun g => g.1 ≤ rs.length ∧ g.2.ps.map rowP = narrowM at_ is many ((rs.take g.1).map rowP) ∧ g.2.ps.length ≤ g.1 ∧ ∀ r ∈ g.2.ps, InL g.2.L r.2.2.1 (cat tyR.c r.2.1) ∧ r.2.1.length ≤ r.2.2.2 ∧ ∀ z ∈ r.2.1, TyO s (low s) z.1 z.2) (fun g => rs.length - g.1)
  (fun g => [(1, true, .int .i64 (at_ : Int)), (2, true, .func (.func f) first.toArray caps.toArray), (3, true, .int .i64 (many : Int)), (9, true, .slice g.2.q g.2.ps.length g.2.c), (14, true, .slice q rs.length cap), (15, true, .int .i64 (rs.length : Int)), (16, true, .int .i64 (g.1 : Int))])
  (fun g => Cls [row w.heap.size g.2.O g.2.q g.2.ps.length g.2.c 72 2 (cat rowC g.2.ps), arena w.heap.size g.2.OA g.2.L] [w]) (0, ⟨fun _ => False, none, 0, [], fun _ => False, []⟩) ⟨Nat.zero_le _, rfl, Nat.le_refl _, fun r hr => (by cases hr)⟩ (by exact Sub.au) (fun w' hw' => (hw'.arena_nil w.heap.size).row_nil w.heap.size 72 2) ?_
 rintro ⟨i, ⟨Oo, qo, co, out, OA, L⟩⟩ ⟨hi, hout, houl, hok⟩
 simp only at hi hout houl hok ⊢
 apply W.sr
 apply obn; rfl; rfl; rfl; apply Bin.lss
 apply OL.nx
 apply W.seq
 (refine W.cnd (fun hlt => ?_) (fun hlt => ?_)) <;> (try (exfalso; first | omega | exact hlt trivial | contradiction))
 ·obtain ⟨a, r, rfl, hab, hri, hcell⟩ := h.elem rowC_len (by decide) (show i < rs.length by omega)
  have hcell : CellsAt w (a.add (i * 2)) [.int .i64 r.1, .slice r.2.2.1 r.2.1.length r.2.2.2] := hcell
  have hrm := List.mem_of_getElem? hri
  obtain ⟨hsl, hcap, hpl, hel, har⟩ := hr r hrm
  have hatr := hat r hrm
  obtain ⟨ap, p, hqp, habp, hpi, hcellp⟩ := hsl.elem tyR.clen (by decide) hatr
  have hcellp : CellsAt w (ap.add (at_ * 4)) [.int .i64 p.1.kind, .string p.1.name, .int .i64 p.1.var, .slice p.2.1 p.1.args.length p.2.2] := hcellp
  have hpm := List.mem_of_getElem? hpi
  have hpP : (rowP r).2[at_]? = some p.1 := by
   show (r.2.1.map Prod.fst)[at_]? = _
   rw [List.getElem?_map, hpi]
   rfl
  have hstep : narrowM at_ is many ((rs.take (i + 1)).map rowP) = narrowM at_ is many ((rs.take i).map rowP) ++ if keepP is p.1 then [((rowP r).1, cutR (rowP r).2 at_ p.1 many)] else [] := by
   rw [List.take_add_one, hri, Option.toList_some, List.map_append]
   unfold narrowM
   rw [List.filterMap_append]
   congr 1
   rw [List.map_cons, List.map_nil, List.filterMap_cons, hpP]
   simp only
   by_cases hk : keepP is p.1 = true
   ·rw [if_pos hk, if_pos hk]
    rfl
   ·rw [if_neg hk, if_neg hk]
    rfl
  rw [hqp] at hcell
  apply W.sk
  apply W.sb
  apply W.sr
  apply oop; rfl; apply Pev.idx; rfl; exact yes; rfl; exact yes; rfl; rfl; intro hcond; omega
  apply oop; rfl; apply Pev.load_keptA; rfl; exact yes; exact .head _; rfl; intro hcond; assumption; rfl; intro hcond; (rw [add_block]; assumption); intro hcond; (focus ((try simp only [add_block]); (repeat (first | exact NotOwned.nil | exact hno _ (by omega) | exact hnr _ (by omega) | refine NotOwned.any (hXn _ (by omega)) ?_ | refine NotOwned.blk (by omega) ?_ | refine NotOwned.row (by omega) ?_ | refine NotOwned.rws (by omega) ?_ | refine NotOwned.pile (by omega) ?_ | refine NotOwned.pool (by omega) ?_ | refine NotOwned.arena (by omega) ?_ | refine NotOwned.bag (by omega) ?_ | refine NotOwned.mapI (by omega) ?_ | apply NotOwned.bif | refine NotOwned.nothing ?_)); done))
  apply OL.alloc; rfl; rfl; exact CellsL.agg; (intro bk hbk; simp only [AllLe, and_true] at hbk)
  apply OL.storeB; rfl; rfl; exact CellsL.agg; rfl; rfl; rfl; exact Swap.au; exact Put.au
  apply OL.nsr
  apply ofa; rfl; rfl; rfl
  apply old; rfl; rfl; exact .head _; rfl; rfl
  apply omv; rfl; rfl
  apply oop; rfl; apply Pev.idx; rfl; exact yes; rfl; exact yes; rfl; rfl; intro hcond; omega
  apply oop; rfl; apply Pev.load_keptA; rfl; exact yes; exact .head _; rfl; intro hcond; assumption; rfl; intro hcond; (rw [add_block]; assumption); intro hcond; (focus ((try simp only [add_block]); (repeat (first | exact NotOwned.nil | exact hno _ (by omega) | exact hnr _ (by omega) | refine NotOwned.any (hXn _ (by omega)) ?_ | refine NotOwned.blk (by omega) ?_ | refine NotOwned.row (by omega) ?_ | refine NotOwned.rws (by omega) ?_ | refine NotOwned.pile (by omega) ?_ | refine NotOwned.pool (by omega) ?_ | refine NotOwned.arena (by omega) ?_ | refine NotOwned.bag (by omega) ?_ | refine NotOwned.mapI (by omega) ?_ | apply NotOwned.bif | refine NotOwned.nothing ?_)); done))
  apply OL.alloc; rfl; rfl; exact CellsL.agg; (intro bk hbk; simp only [AllLe, and_true] at hbk)
  apply OL.storeB; rfl; rfl; exact CellsL.agg; rfl; rfl; rfl; exact Swap.au; exact Put.au
  apply OL.nx
  apply W.seq
  apply W.sr
  apply oop; rfl; apply Pev.load_blkA; rfl; exact yes; exact .head _; rfl; exact Take.au
  rename_i b11 hb11
  revert bk
  intro b12 hb12
  have hfr : ∀ w2, Calls Try.prog 49 [.agg #[.int .i64 p.1.kind, .string p.1.name, .int .i64 p.1.var, .slice p.2.1 p.1.args.length p.2.2]].toArray w2 fun e w' => e = .returned (.bool (free p.1)) ∧ Ext w2 w' := fun w2 => mfree_calls p.1 p.2 w2
  have hpz : ∀ w2, Ext w w2 → Calls Try.prog f (first ++ [Value.agg #[.int .i64 p.1.kind, .string p.1.name, .int .i64 p.1.var, .slice p.2.1 p.1.args.length p.2.2]] ++ caps).toArray w2 fun e w'' => e = .returned (.bool (is p.1)) ∧ Ext w2 w'' := fun w2 hx => hp p w2 hx
  have hno : ∀ k, k < w.heap.size → NotOwned [row w.heap.size Oo qo out.length co 72 2 (cat rowC out), arena w.heap.size OA L] k := fun k hk => NotOwned.row (by omega) (NotOwned.arena (by omega) .nil)
  have hHb : ∀ k, k < w.heap.size → NotOwned [blk b12 50 [.int .i64 p.1.kind, .string p.1.name, .int .i64 p.1.var, .slice p.2.1 p.1.args.length p.2.2], blk b11 72 [.int .i64 r.1, .slice (some ap) r.2.1.length r.2.2.2], row w.heap.size Oo qo out.length co 72 2 (cat rowC out), arena w.heap.size OA L] k := fun k hk => NotOwned.blk (by omega) (NotOwned.blk (by omega) (hno k hk))
  (((first | (with_reducible apply OL.op) | (with_reducible apply QL.op)); (exact Guard.au); rfl; rfl); (exact Pev.call (v := .bool (free p.1)) rfl (by exact Args.au) (fun _ w2 hw2 => (hfr w2).mono fun e w3 h => ⟨h.1, hw2.ext h.2⟩)))
  apply oop; rfl; apply Pev.not; rfl; exact yes
  apply omv; rfl; rfl
  apply oy; rfl; rfl; rfl; apply Pev.move; rfl; exact yes
  apply oy; rfl; rfl; rfl; apply Pev.load_blkA; rfl; exact yes; exact .head _; rfl; exact Take.au
  (((first | (with_reducible apply OL.op) | (with_reducible apply QL.op)); (exact Guard.au); rfl; rfl); (apply Pev.callv (first := first) (cap := caps)); rfl; ((first | exact fun _ => rfl | exact fun h => h | (intro h; simp_all; done))); (exact hf); (exact Args.au); (exact (fun _ w2 hw2 => (hpz w2 (hw2.toExt (.head _) hHb)).mono (fun e w3 h => ⟨h.1, hw2.ext h.2⟩))))
  apply oy; rfl; rfl; rfl; apply Pev.not; rfl; exact fun h => h
  apply oop; rfl; apply Pev.pick_and; rfl; exact yes; rfl; exact fun h => h
  apply OL.nx
  by_cases hk : keepP is p.1 = true
  ·rw [if_pos hk] at hstep
   have hc33 : (!free p.1 && !is p.1) = false := by
    unfold keepP at hk
    cases h1 : free p.1 <;> cases h2 : is p.1 <;> simp_all
   rw [hc33]
   refine W.cond rfl (fun hb => by cases hb) (fun _ => ?_)
   apply W.sk
   apply W.sr
   apply omv; rfl; rfl
   refine OL.makeSliceK (f := tyR.c) (x0 := (anyT, (none, 0))) (m := many) rfl rfl rfl rfl rfl rfl rfl rfl (by omega) (fun b13 hb13 => ?_)
   simp only [AllLe, and_true] at hb13
   obtain ⟨Hc, hHc⟩ : ∃ Hc : List Eng.Item, Hc = [blk b13 50 (cat tyR.c (List.replicate many (anyT, ((none, 0) : PY)))), blk b12 50 [.int .i64 p.1.kind, .string p.1.name, .int .i64 p.1.var, .slice p.2.1 p.1.args.length p.2.2], blk b11 72 [.int .i64 r.1, .slice (some ap) r.2.1.length r.2.2.2], row w.heap.size Oo qo out.length co 72 2 (cat rowC out), arena w.heap.size OA L] := ⟨_, rfl⟩
   have hHcn : ∀ k, k < w.heap.size → NotOwned Hc k := by
    rw [hHc]
    exact fun k hk => NotOwned.blk (by omega) (hHb k hk)
   apply oas; rfl; rfl
   apply OL.nx
   apply W.seq
   apply W.sr
   apply oop; rfl; apply Pev.load_blkA; rfl; exact yes; exact .tail _ (.head _); rfl; exact Take.au
   (((first | (with_reducible apply OL.op) | (with_reducible apply QL.op)); (exact Guard.au); rfl; rfl); (exact Pev.call (v := .bool (free p.1)) rfl (by exact Args.au) (fun _ w2 hw2 => (hfr w2).mono fun e w3 h => ⟨h.1, hw2.ext h.2⟩)))
   apply oop; rfl; apply Pev.not; rfl; exact yes
   apply omv; rfl; rfl
   apply oy; rfl; rfl; rfl; apply Pev.fld; rfl; exact yes; rfl
   apply oy; rfl; rfl; rfl; apply Pev.load_blk; rfl; exact fun h => h; exact .tail _ (.head _); rfl; rfl
   apply oy; rfl; rfl; rfl; apply Pev.bin; rfl; exact fun h => h; rfl; exact yes; intro hcond; apply Bin.eql
   apply oop; rfl; apply Pev.pick_and; rfl; exact yes; rfl; exact fun h => h
   apply OL.nx
   obtain ⟨pz, hpz1, hpz2, _, _⟩ := pat_kids (hel p hpm)
   have hpzl : pz.length = p.1.args.length := by rw [← hpz1, List.length_map]
   refine W.joinx (G := Par) (fun F => F.1.map Prod.fst = fieldsOf p.1 many ∧ F.1.length ≤ 100000 ∧ (∀ z ∈ F.1, TyO s (low s) z.1 z.2) ∧ ∀ w2, Cls Hc [w] w2 → Arr tyR w2 (low w2) F.1 F.2.1) (fun F => [(1, true, .int .i64 (at_ : Int)), (2, true, .func (.func f) first.toArray caps.toArray), (3, true, .int .i64 (many : Int)), (9, true, .slice qo out.length co), (11, true, .pointer (some ⟨b11, 0, none⟩)), (13, true, .slice F.2.1 F.1.length F.2.2), (14, true, .slice (some a) rs.length cap), (15, true, .int .i64 (rs.length : Int)), (16, true, .int .i64 (i : Int))]) (fun _ => Cls Hc [w]) ?_ ?_
   ·by_cases hc : free p.1 = false ∧ p.1.kind = 3
    ·have hp13 := har p hpm hc.1
     rw [hc.1]
     refine W.cond rfl (fun _ => ?_) (fun hb => by simp [hc.2] at hb)
     apply W.reg
     apply ofa; rfl; rfl; rfl
     apply old; rfl; rfl; exact .tail _ (.head _); rfl; rfl
     apply oas; rfl; rfl
     apply OL.nil
     refine At.joinedx (pz, p.2) ⟨by rw [hpz1]; unfold fieldsOf; rw [if_pos hc], by simp only; omega, fun z hz => hpz2.el z hz, fun w2 hw2 => (hold.ext (hw2.toExt (.head _) hHcn)).arr hpz2⟩ (by simp only [hpzl]; exact Sub.au) (fun w' hw' => by rw [hHc]; exact hw')
    ·have hcf : (!free p.1 && decide (p.1.kind = 3)) = false := by
      cases h1 : free p.1 with
      | true => rfl
      | false =>
       have : ¬ p.1.kind = 3 := fun h => hc ⟨h1, h⟩
       simp [this]
     rw [hcf]
     refine W.cond rfl (fun hb => by cases hb) (fun _ => ?_)
     apply W.skip
     refine At.joinedx (List.replicate many (anyT, ((none, 0) : PY)), (some ⟨b13, 0, none⟩, many)) ⟨by rw [anyl_map]; unfold fieldsOf; rw [if_neg hc], by simp only [List.length_replicate]; exact hmany, anyl_ok s _ many, fun w2 hw2 => ?_⟩ (by simp only [List.length_replicate]; exact Sub.au) (fun w' hw' => by rw [hHc]; exact hw')
     rw [hHc] at hw2
     exact ⟨fun _ => ⟨⟨b13, 0, none⟩, rfl, hw2.lt _ (.head _) b13 rfl, fun j v hj => by
      rw [add_mid, blk_cell (hw2.item (.head _)), Nat.zero_add]
      exact hj⟩, anyl_ok w2 _ many⟩
   rintro F ⟨hF1, hF2, hF3, hF4⟩
   simp only
   rw [hHc]
   apply W.regz; apply ZSplit.pure rfl; apply ZSplit.pure rfl; apply ZSplit.pure rfl; apply ZSplit.pure rfl; apply ZSplit.pure rfl; apply ZSplit.pure rfl; apply ZSplit.pure rfl; apply ZSplit.pure rfl; apply ZSplit.pure rfl; apply ZSplit.pure rfl; apply ZSplit.pure rfl; apply ZSplit.pure rfl; apply ZSplit.pure rfl; apply ZSplit.tail; apply ZSplit.tail; apply ZSplit.tail; apply ZSplit.tail; apply ZSplit.tail; apply ZSplit.tail; exact ZSplit.nil; kernel_rfl; decide +kernel; exact fun w hw => hw.drew
   apply ZL.op rfl; exact Guard.none; rfl; rfl; apply Pev.move; rfl; exact yes
   apply ZL.op rfl; exact Guard.none; rfl; rfl; apply Pev.fld; rfl; exact yes; rfl
   apply ZL.ld rfl; exact Guard.none; rfl; rfl; apply Pev.load_blk; rfl; exact yes; exact .tail _ (.tail _ (.head _)); rfl; rfl
   apply ZL.op rfl; exact Guard.none; rfl; rfl; apply Pev.fld; rfl; exact yes; rfl
   apply ZL.ld rfl; exact Guard.none; rfl; rfl; apply Pev.load_blk; rfl; exact yes; exact .tail _ (.tail _ (.head _)); rfl; rfl
   apply ZL.op rfl; exact Guard.none; rfl; rfl; apply Pev.move; rfl; exact yes
   apply ZL.op rfl; exact Guard.none; rfl; rfl; apply Pev.slice_hi; rfl; exact yes; rfl; exact yes; rfl; rfl; intro hcond; omega
   apply ZL.op rfl; exact Guard.none; rfl; rfl; apply Pev.fld; rfl; exact yes; rfl
   apply ZL.ld rfl; exact Guard.none; rfl; rfl; apply Pev.load_blk; rfl; exact yes; exact .tail _ (.tail _ (.head _)); rfl; rfl
   apply ZL.op rfl; exact Guard.none; rfl; rfl; apply Pev.move; rfl; exact yes
   apply ZL.op rfl; exact Guard.none; rfl; rfl; apply Pev.bin; rfl; exact yes; rfl; exact yes; intro hcond; apply Bin.add_in; omega
   apply ZL.op rfl; exact Guard.none; rfl; rfl; apply Pev.slice_lo; rfl; exact yes; rfl; exact yes; rfl; rfl; intro hcond; (simp only [Bool.and_eq_true, Bool.or_eq_true, Bool.not_eq_true', decide_eq_true_eq, decide_eq_false_iff_not] at *; omega)
   apply ZL.op rfl; exact Guard.none; rfl; rfl; apply Pev.move; rfl; exact yes
   apply ZL.nil
   apply TL.one rfl
   apply OL.buildSlice; rfl; rfl; rfl; exact Elems.au; rfl; rfl; (intro bk hbk; simp only [AllLe, and_true] at hbk)
   apply OL.nil
   refine At.tk (fun w hw => hw.thin ?_) ?_; exact Thin.au
   apply TL.one rfl
   revert bk
   intro b59 hb59
   obtain ⟨A, hA⟩ : ∃ A, r.2.1.take at_ = A := ⟨_, rfl⟩
   obtain ⟨B, hB⟩ : ∃ B, r.2.1.drop (at_ + 1) = B := ⟨_, rfl⟩
   have hAl : at_ = A.length := by rw [← hA, List.length_take]; omega
   have hBl : r.2.1.length - (at_ + 1) = B.length := by rw [← hB, List.length_drop]
   obtain ⟨N, hN⟩ : ∃ N, N = A ++ (B ++ F.1) := ⟨_, rfl⟩
   have hNl : N.length = A.length + (B.length + F.1.length) := by rw [hN, List.length_append, List.length_append]
   have hNel : ∀ z ∈ N, TyO s (low s) z.1 z.2 := fun z hz => by
    rw [hN, ← hA, ← hB] at hz
    rcases List.mem_append.1 hz with hz | hz
    ·exact hel z (List.mem_of_mem_take hz)
    rcases List.mem_append.1 hz with hz | hz
    ·exact hel z (List.mem_of_mem_drop hz)
    ·exact hF3 z hz
   refine OL.callE (α := Option Addr × Nat × Nat × Nat) (fun y => .slice y.1 N.length y.2.1) (fun y => (0 < (cat tyR.c N).length → ∃ a, y.1 = some a) ∧ N.length ≤ y.2.1 ∧ w.heap.size ≤ y.2.2.1) (fun y => Cls [pile y.2.2.1 (fun k => k < y.2.2.2) [⟨y.1, y.2.1, cat tyR.c N⟩], blk b59 25 [.slice (some ap) at_ r.2.2.2, .slice (cutq (some ap) r.2.2.2 (at_ + 1) 4) (r.2.1.length - (at_ + 1)) (r.2.2.2 - (at_ + 1)), .slice F.2.1 F.1.length F.2.2], blk b13 50 (cat tyR.c (List.replicate many (anyT, ((none, 0) : PY)))), blk b12 50 [.int .i64 p.1.kind, .string p.1.name, .int .i64 p.1.var, .slice p.2.1 p.1.args.length p.2.2], blk b11 72 [.int .i64 r.1, .slice (some ap) r.2.1.length r.2.2.2], row w.heap.size Oo qo out.length co 72 2 (cat rowC out), arena w.heap.size OA L] [w]) rfl rfl (by exact Args.au) (fun w2 hw2 => ?_) ?_
   ·have hb := hw2.item (i := blk b59 25 [.slice (some ap) at_ r.2.2.2, .slice (cutq (some ap) r.2.2.2 (at_ + 1) 4) (r.2.1.length - (at_ + 1)) (r.2.2.2 - (at_ + 1)), .slice F.2.1 F.1.length F.2.2]) (.head _)
    have hwc : Cls Hc [w] w2 := by
     rw [hHc]
     exact hw2.thin (.blk (by simp only [AllLe, and_true]; omega) Thin.same)
    have hx2 := hwc.toExt (s := w) (.head _) hHcn
    have harr : Arr tyR w2 (low w2) r.2.1 r.2.2.1 := Arr.of_sl (SlAt.extS hsl hx2) (fun z hz => (hold.ext hx2).ty (hel z hz))
    rw [hqp] at harr
    have hdrop := Arr.drop harr hcap (at_ + 1)
    have htake := Arr.take harr at_
    rw [hA] at htake
    rw [hB] at hdrop
    rw [hBl] at hb
    have hb2 : (blk b59 25 ([(A, (some ap, r.2.2.2)), (B, (cutq (some ap) r.2.2.2 (at_ + 1) 4, r.2.2.2 - (at_ + 1))), F].map slP)).holds w2 := by
     rw [show ([(A, (some ap, r.2.2.2)), (B, (cutq (some ap) r.2.2.2 (at_ + 1) 4, r.2.2.2 - (at_ + 1))), F].map slP) = [.slice (some ap) A.length r.2.2.2, .slice (cutq (some ap) r.2.2.2 (at_ + 1) 4) B.length (r.2.2.2 - (at_ + 1)), .slice F.2.1 F.1.length F.2.2] from rfl, ← hAl]
     exact hb
    have hcnt : cntR [(A, (some ap, r.2.2.2)), (B, (cutq (some ap) r.2.2.2 (at_ + 1) 4, r.2.2.2 - (at_ + 1))), F] = N.length := by
     rw [hNl]
     simp [cntR]
    have hflat : ([(A, (some ap, r.2.2.2)), (B, (cutq (some ap) r.2.2.2 (at_ + 1) 4, r.2.2.2 - (at_ + 1))), F] : List Par).flatMap parC = cat tyR.c N := by
     rw [flat_cat, hN]
     simp
    have hc := Concat_calls b59 [(A, (some ap, r.2.2.2)), (B, (cutq (some ap) r.2.2.2 (at_ + 1) 4, r.2.2.2 - (at_ + 1))), F] w2 hb2 (fun x hx => by
     simp only [List.mem_cons, List.not_mem_nil, or_false] at hx
     rcases hx with rfl | rfl | rfl
     ·exact htake
     ·exact hdrop
     ·exact hF4 w2 hwc) (by simp) (by rw [hcnt]; omega)
    rw [hcnt, hflat] at hc
    refine hc.mono ?_
    rintro e w3 ⟨O3, q3, c3, k1, k2⟩
    have hx3 : Ext w2 w3 := k2.toExt (.head _) (fun k hk => NotOwned.row (by omega) .nil)
    have hfs : FrS w2 w3 (cat tyR.c N) q3 := FrS.of_row k2 (.head _)
    refine ⟨(q3, c3, w2.heap.size, w3.heap.size), k1, ⟨fun hl => ?_, row_cap (k2.item (.head _)), (hw2.kp w (.head _)).size⟩, Cls.frs hw2 hx3 hfs⟩
    obtain ⟨a3, g1, _⟩ := hfs hl
    exact ⟨a3, g1⟩
   rintro ⟨q3, c3, lo3, hi3⟩ ⟨hq3, hc3, hlo3⟩
   simp only at hq3 hc3 hlo3 ⊢
   apply OL.nil
   refine At.tk (fun w9 hw9 => hw9.thin (.any (fun k hk => ⟨Nat.le_trans hlo3 hk.1, trivial⟩) (.blk (by simp only [AllLe, and_true]; omega) Thin.same))) ?_
   apply TL.one rfl
   apply oop; rfl; apply Pev.build; rfl; exact CellsL.agg; rfl; exact Fill.au; rfl
   apply OL.nil
   with_reducible apply At.tn; decide +kernel
   apply TL.one rfl
   apply OL.buildSlice; rfl; rfl; rfl; exact Elems.au; rfl; rfl; (intro bk hbk; simp only [AllLe, and_true] at hbk)
   apply OL.nil
   with_reducible apply At.tn; decide +kernel
   apply TL.one rfl
   apply OL.append; rfl; rfl; rfl; rfl; exact Hole.au; exact .head _; exact Take.au; rfl; rfl; exact ⟨_, .head _, Nat.le_refl _⟩; omega; intro O1 g1 cap1
   apply OL.nil
   with_reducible apply At.tn; decide +kernel
   apply TL.one rfl
   apply oas; rfl; rfl
   apply OL.nil
   with_reducible apply At.tn; decide +kernel
   apply TL.nil
   with_reducible apply At.np
   with_reducible apply At.in_normal
   with_reducible apply At.next
   apply W.reg
   apply obn; rfl; rfl; rfl; apply Bin.add_in; omega
   apply omv; rfl; rfl
   apply OL.nil
   obtain ⟨un, hun⟩ : ∃ un : RowE, un = (r.1, N, (q3, c3)) := ⟨_, rfl⟩
   have e1 : out.length + 1 = (out ++ [un]).length := by simp
   have e2 : cat rowC out ++ [Value.int .i64 r.1, .slice q3 N.length c3] = cat rowC (out ++ [un]) := by
    rw [cat_append, cat_one, hun]
    rfl
   rw [e1, e2]
   refine At.again (i + 1, ⟨O1, some ⟨g1, 0, none⟩, cap1, out ++ [un], fun k => OA k ∨ (pile lo3 (fun k => k < hi3) [⟨q3, c3, cat tyR.c N⟩]).own k, L ++ slL q3 (cat tyR.c N)⟩) ⟨by simp only; omega, ?_, by simp only [← e1]; omega, fun x hx => (List.mem_append.1 hx).elim (fun hx => ?_) (fun hx => ?_)⟩ (by simp only; omega) (by exact Sub.au) (fun w' hw' => ?_)
   ·simp only [hstep, List.map_append, hout, List.map_cons, List.map_nil, hun]
    congr 2
    show (r.1, N.map Prod.fst) = (r.1, cutR (r.2.1.map Prod.fst) at_ p.1 many)
    unfold cutR
    rw [hN, List.map_append, List.map_append, ← hA, ← hB, List.map_take, List.map_drop, hF1]
   ·obtain ⟨g1, g2, g3⟩ := hok x hx
    exact ⟨g1.mono (fun y hy => List.mem_append_left _ hy), g2, g3⟩
   ·rw [List.mem_singleton] at hx
    rw [hx, hun]
    refine ⟨fun hl => ?_, hc3, hNel⟩
    obtain ⟨a3, g1⟩ := hq3 hl
    refine ⟨a3, g1, List.mem_append_right _ ?_⟩
    rw [g1]
    exact slL_in hl
   ·have h3 := (hw'.thin (H' := [pile lo3 (fun k => k < hi3) [⟨q3, c3, cat tyR.c N⟩], row w.heap.size O1 (some ⟨g1, 0, none⟩) (out ++ [un]).length cap1 72 2 (cat rowC (out ++ [un])), arena w.heap.size OA L]) (.blk (by simp only [AllLe, and_true]; omega) (.keep (.blk (by simp only [AllLe, and_true]; omega) (.blk (by simp only [AllLe, and_true]; omega) (.blk (by simp only [AllLe, and_true]; omega) (.blk (by simp only [AllLe, and_true]; omega) Thin.same))))))).perm (List.Perm.cons _ (List.Perm.swap _ _ _))
    have h4 := h3.arena_join (fun k hk => Nat.le_trans hlo3 hk.1) (slL q3 (cat tyR.c N)) (fun x hx => by
     obtain ⟨k1, k2, k3⟩ := slL_mem hx
     obtain ⟨a4, k4, k5, k6⟩ := h3.item (i := pile lo3 (fun k => k < hi3) [⟨q3, c3, cat tyR.c N⟩]) (.head _) _ (.head _) k3
     simp only at k4
     rw [k1] at k4
     rw [Option.some.inj k4, k2]
     exact ⟨k5, k6⟩)
    exact h4.perm (List.Perm.swap _ _ _)
  ·rw [if_neg hk, List.append_nil] at hstep
   have hc33 : (!free p.1 && !is p.1) = true := by
    unfold keepP at hk
    cases h1 : free p.1 <;> cases h2 : is p.1 <;> simp_all
   rw [hc33]
   refine W.cond rfl (fun _ => ?_) (fun hb => by cases hb)
   refine W.xt ?_
   with_reducible apply At.next
   apply W.reg
   apply obn; rfl; rfl; rfl; apply Bin.add_in; omega
   apply omv; rfl; rfl
   apply OL.nil
   exact At.again (i + 1, ⟨Oo, qo, co, out, OA, L⟩) ⟨by simp only; omega, by simp only [hstep]; exact hout, by simp only; omega, hok⟩ (by simp only; omega) (by exact Sub.au) (fun w' hw' => hw'.thin (.blk (by simp only [AllLe, and_true]; omega) (.blk (by simp only [AllLe, and_true]; omega) Thin.same)))
 ·obtain rfl : i = rs.length := by omega
  rw [List.take_length] at hout
  refine W.xt ?_
  with_reducible apply At.next
  apply W.sr
  apply omv; rfl; rfl
  apply oas; rfl; rfl
  apply OL.nx
  apply W.ret
  ((with_reducible apply At.fin1); rfl; rfl; intro w' hw')
  refine ⟨qo, co, out, rfl, hout, houl, FrS.of_row hw' (.head _), fun r hr => ?_, hw'.toExt (.head _) (fun k hk => NotOwned.row (by omega) (NotOwned.arena (by omega) .nil))⟩
  obtain ⟨g1, g2, g3⟩ := hok r hr
  exact ⟨g1.fr hw' (.tail _ (.head _)), g2, g3⟩
end Go.Proofs.Ytleggdmhihcafaa.pt

/-
 DERIVED: THE SHELF's CONTRACTS AT THIS DUMP, IN PLAIN WORDS (tools/lay-plain.mjs out of 'YtleggdmhihcafaaShelfD.lean', which tools/lay-shelf.mjs wrote): THE SAME DECLARATIONS UNDER THE SAME NAMES: 'import', 'namespace', 'open', 'def', 'theorem' AND NOTHING ELSE: no command of the shelf's: FOR A HAND-IN. Each laying: the table of numbers ('.._ren') and one theorem, a field a fact of the dump's own or the kernel's comparison; each contract: ONE APPLICATION.
-/
namespace Go.Proofs
open Go.Shelf
def Try.growI_ren : Go.Shelf.Ren := ⟨fun | 4 => 92 | n => n, fun | 22 => 70 | 25 => 35 | 3 => 3 | 4 => 4 | 9 => 9 | 20 => 20 | 0 => 0 | n => n, fun | n => n⟩
theorem Try.growI : Go.Proofs.Lays8.n4 Try.prog Try.growI_ren := {
 mixed := by kernel_rfl
 f4 := ⟨Try.f92.name, by decide, Try.func92.trans (congrArg some (by kernel_rfl))⟩
 t0 := Try.underlying0
 a0 := Try.isAgg0
 z0 := Try.sizeOf0
 v0 := Try.zeroValue0
 t3 := Try.underlying3
 a3 := Try.isAgg3
 z3 := Try.sizeOf3
 v3 := Try.zeroValue3
 t4 := Try.underlying4
 a4 := Try.isAgg4
 z4 := Try.sizeOf4
 v4 := Try.zeroValue4
 t9 := Try.underlying9
 a9 := Try.isAgg9
 z9 := Try.sizeOf9
 v9 := Try.zeroValue9
 t20 := Try.underlying20
 a20 := Try.isAgg20
 z20 := Try.sizeOf20
 v20 := Try.zeroValue20
 t22 := Try.underlying70
 a22 := Try.isAgg70
 z22 := Try.sizeOf70
 v22 := Try.zeroValue70 }
end Go.Proofs

/- The walks of slices.Clone at []int, slices.Concat at [][]int, and of match.below. Conditions: none. -/
namespace Go.Pt
open Go.Eng Go.RowKit
abbrev PathE := List Int × PY
def pthC (p : PathE) : List Value := [.slice p.2.1 p.1.length p.2.2]
theorem pthC_len (p : PathE) : (pthC p).length = 1 := rfl
theorem pthC_one (p : PathE) : oneL (pthC p) = true := rfl
theorem intV_one : ∀ l : List Int, oneL (intV l) = true
 | [] => rfl
 | x :: l => intV_one l
abbrev Par2 := List PathE × PY
def slP2 (r : Par2) : Value := .slice r.2.1 r.1.length r.2.2
def parC2 (r : Par2) : List Value := cat pthC r.1
def cntR2 (L : List Par2) : Nat := (L.map fun r => r.1.length).sum
theorem cntR2_take (L : List Par2) (k : Nat) {r : Par2} (h : L[k]? = some r) : cntR2 (L.take (k + 1)) = cntR2 (L.take k) + r.1.length := by
 unfold cntR2
 rw [List.take_add_one, h, Option.toList_some, List.map_append, List.sum_append]
 simp
theorem cntR2_le : ∀ (L : List Par2) (k : Nat), cntR2 (L.take k) ≤ cntR2 L
 | [], k => by simp [cntR2]
 | r :: L, 0 => by simp [cntR2]
 | r :: L, k + 1 => by
  have := cntR2_le L k
  simp only [cntR2, List.take_succ_cons, List.map_cons, List.sum_cons] at this ⊢
  omega
theorem flat_cat2 (L : List Par2) : L.flatMap parC2 = cat pthC (L.flatMap fun r => r.1) := by
 induction L with
 | nil => rfl
 | cons r L ih => rw [List.flatMap_cons, List.flatMap_cons, cat_append, ih]; rfl
structure GP where
 O : Nat → Prop
 q : Option Addr
 c : Nat
 ps : List PathE
 OA : Nat → Prop
 L : List (Addr × List Value)
structure GR2 where
 O : Nat → Prop
 q : Option Addr
 c : Nat
end Go.Pt
namespace Go.Proofs.Ytleggdmhihcafaa.pt
open Go.RowKit Go.Eng Go.Pt
set_option maxRecDepth 100000
theorem CloneI_calls (q : Option Addr) (cap : Nat) (l : List Int) (w : World) (hlen : l.length ≤ 100000) (hpos : 0 < l.length ∨ q = none) (h : SlAt w w.heap.size q (intV l)) :
  Calls Try.prog 28 #[.slice q l.length cap] w fun e w' => ∃ (O : Nat → Prop) (q' : Option Addr) (c' : Nat), e = .returned (.slice q' l.length c') ∧ Cls [row w.heap.size O q' l.length c' 3 1 (intV l)] [w] w' := by
 refine enter Try.func28 rfl Try.ntmps28 rfl (Cls.start w) ?_
 (simp only [argEnv, Nat.zero_add, Nat.reduceAdd])
 apply W.sr
 apply oas; rfl; rfl
 apply OL.nx
 apply W.seq
 apply W.sr
 apply omv; rfl; rfl
 apply obn; rfl; rfl; rfl; apply Bin.slice_nil; rfl
 apply OL.nx
 cases q with
 | none =>
  refine W.cond rfl (fun _ => ?_) (fun hc => by cases hc)
  have hl0 : l = [] := by
   cases l with
   | nil => rfl
   | cons x r =>
    obtain ⟨a, he, _⟩ := h (by simp [intV])
    cases he
  rw [hl0]
  apply W.sr
  apply oas; rfl; rfl
  apply OL.nx
  refine W.rt ?_
  ((with_reducible apply At.fin1); rfl; rfl; intro w' hw')
  exact ⟨fun _ => False, none, 0, rfl, hw'.row_nil w.heap.size 3 1⟩
 | some a =>
  have hpos : 0 < l.length := hpos.resolve_right (fun e => by cases e)
  refine W.cond rfl (fun hc => by cases hc) (fun _ => ?_)
  apply W.sk
  apply W.sr
  apply OL.buildSlice; rfl; rfl; rfl; exact Elems.au; rfl; rfl; (intro bk hbk; simp only [AllLe, and_true] at hbk)
  apply omv; rfl; rfl
  refine OL.cls (C' := Cls (nothing :: [blk bk 3 []]) [w]) (fun w' hw' => hw'.nothing_in) ?_
  ((apply OL.appendF (xs := []) (news := intV l) (base := w.heap.size)); rfl; rfl; rfl; rfl; (exact Hole.au); (exact fun w2 hw2 => SlAt.nil); rfl; (exact fun w2 hw2 => SlAt.extS h (hw2.toExt (s := w) (.head _) (fun k hk => NotOwned.any (fun h => h.elim) (NotOwned.blk (by omega) .nil)))); (rw [intV_length, Nat.mul_one]); (exact intV_one l); (omega); (exact ⟨w, .head _, Nat.le_refl _⟩); (omega); (exact fun h => by cases h); (intro O5 q5 c5))
  rw [List.nil_append, Nat.zero_add]
  apply oas; rfl; rfl
  apply OL.nx
  apply W.ret
  ((with_reducible apply At.fin1); rfl; rfl; intro w' hw')
  exact ⟨O5, q5, c5, rfl, hw'.thin (.keep (.blk ⟨hbk, trivial⟩ Thin.same))⟩
theorem Grow2_calls (n : Nat) (w w2 : World) (hw2 : Cls [] [w] w2) (hn : n ≤ 1000000000) :
  Calls Try.prog 92 [.slice none 0 0, .int .i64 (n : Int)].toArray w2 fun e w' => ∃ O q c, e = .returned (.slice q 0 c) ∧ Cls [row w.heap.size O q 0 c 35 1 []] [w] w' := by
 by_cases h0 : n = 0
 ·rw [h0]
  refine (Any8.slices_Grow_room Try.growI none 0 0 0 w2 (by omega) (by omega) (by omega) (by omega)).mono fun e w' ⟨h1, h2⟩ => ⟨fun _ => False, none, 0, h1, ?_⟩
  rw [h2]
  exact hw2.row_nil w.heap.size 35 1
 ·obtain ⟨i0, hi, hz0, hz1, hz2⟩ := info_parts (P := Try.prog) (e := 35) (z := .slice none 0 0) (size := 1) (bytes := 24) rfl
  refine (Any8.slices_Grow_grow Try.growI i0 _ hi hz0 (by omega) none 0 0 n [] w2 (by omega) (by omega) (by rw [hz2]; omega) (by omega) (by simp) (fun _ => rfl) (fun a ha => by cases ha)).mono fun e w' ⟨h1, h2⟩ => ?_
  have hG1 := grownCap_ge w2 (0 + n) 0 (Try.growI_ren.t 25)
  have hG2 : grownCap w2 (0 + n) 0 (Try.growI_ren.t 25) ≤ maxLen := grownCap_le_maxLen w2 _ _ _ (by simp only [maxLen]; omega)
  generalize grownCap w2 (0 + n) 0 (Try.growI_ren.t 25) = G at *
  have hcs : (([] : List Value).toArray ++ Builtin.zeroCells (Value.slice none 0 0).cells (0 + n - 0) ++ Builtin.zeroCells (Value.slice none 0 0).cells (G - (0 + n))).size = G * 1 := by
   have hz4 : (Value.slice none 0 0).cells.size = 1 := rfl
   rw [Array.size_append, Array.size_append, madeZ, madeZ, hz4, List.size_toArray, List.length_nil]
   omega
  generalize (([] : List Value).toArray ++ Builtin.zeroCells (Value.slice none 0 0).cells (0 + n - 0) ++ Builtin.zeroCells (Value.slice none 0 0).cells (G - (0 + n))) = cs at *
  have hh : w'.heap[w2.heap.size]? = some (.cells cs 35 (0, 0)) := by rw [h2]; exact heap_alloc_new w2.drew _
  have hx : Ext w2 w' := by
   rw [h2]
   exact Keep.trans (b := w2.drew) ⟨rfl, rfl, rfl, Nat.le_refl _, fun _ _ _ => rfl⟩ (ext_alloc _ _)
  refine ⟨fun k => k = w2.heap.size, some ⟨w2.heap.size, 0, none⟩, G, h1, ?_⟩
  refine hw2.add hx _ ⟨fun a ha => by cases ha; rfl, by simp, .inr ⟨w2.heap.size, G, cs, rfl, (hw2.kp w (.head _)).size, hh, Nat.zero_le _, hG2, hcs, by simp⟩⟩ (fun k hk => ?_)
  have hk2 : k = w2.heap.size := hk.2
  rw [hk2]
  exact ⟨Nat.le_refl _, (Array.getElem?_eq_some_iff.1 hh).1⟩
theorem Concat2P_calls (bP : Nat) (L : List Par2) (w : World) (hb : (blk bP 70 (L.map slP2)).holds w) (hL : ∀ r ∈ L, SlAt w w.heap.size r.2.1 (cat pthC r.1)) (hl : L.length ≤ 1000000) (ht : cntR2 L ≤ 1000000000) :
  Calls Try.prog 84 [.slice (some ⟨bP, 0, none⟩) L.length L.length].toArray w fun e w' => ∃ O q c, e = .returned (.slice q (cntR2 L) c) ∧ Cls [row w.heap.size O q (cntR2 L) c 35 1 (L.flatMap parC2)] [w] w' := by
 have hbP := blk_lt hb
 refine enter Try.func84 rfl Try.ntmps84 rfl (Cls.start w) ?_
 (simp only [argEnv, Nat.zero_add, Nat.reduceAdd])
 apply W.sr
 apply oas; rfl; rfl
 apply OL.nsr
 apply oas; rfl; rfl
 apply OL.nx
 apply W.seq
 apply W.sr
 apply omv; rfl; rfl
 apply oop; rfl; apply Pev.len_slice; rfl; exact yes; rfl
 apply omv; rfl; rfl
 apply OL.nx
 apply W.block
 refine W.loop (G := Nat) (fun k => k ≤ L.length) (fun k => L.length - k)
  (fun k => [(0, true, .slice (some ⟨bP, 0, none⟩) L.length L.length), (3, true, .int .i64 (cntR2 (L.take k) : Int)), (9, true, .slice (some ⟨bP, 0, none⟩) L.length L.length), (10, true, .int .i64 (L.length : Int)), (11, true, .int .i64 (k : Int))])
  (fun _ => Cls [] [w]) 0 (by omega) (by exact Sub.au) (fun w' hw' => hw') ?_
 rintro k hk
 apply W.sr
 apply obn; rfl; rfl; rfl; apply Bin.lss
 apply OL.nx
 apply W.seq
 (refine W.cnd (fun hlt => ?_) (fun hlt => ?_)) <;> (try (exfalso; first | omega | exact hlt trivial | contradiction))
 ·have hkl : k < L.length := by omega
  obtain ⟨r, hr⟩ : ∃ r, L[k]? = some r := ⟨_, List.getElem?_eq_getElem hkl⟩
  have hc : w.cell? ⟨bP, 0 + (k : Int).toNat * 1, none⟩ = some (.slice r.2.1 r.1.length r.2.2) := by
   rw [blk_cell hb, show 0 + (k : Int).toNat * 1 = k by omega, List.getElem?_map, hr]; rfl
  have h1 := cntR2_take L k hr
  have h2 := cntR2_le L (k + 1)
  apply W.sk
  apply W.sb
  apply W.sr
  apply oop; rfl; apply Pev.idxB; rfl; exact yes; rfl; exact yes; rfl; intro hcond; omega; rfl
  apply oop; rfl; apply Pev.load_kept; rfl; exact yes; exact .head _; rfl; intro hcond; assumption; intro hcond; assumption; intro hcond; exact NotOwned.au
  apply oas; rfl; rfl
  apply OL.nsr
  apply omv; rfl; rfl
  apply omv; rfl; rfl
  apply oop; rfl; apply Pev.len_slice; rfl; exact yes; rfl
  apply obn; rfl; rfl; rfl; apply Bin.add_in; omega
  apply oas; rfl; rfl
  apply OL.nsr
  apply omv; rfl; rfl
  apply obn; rfl; rfl; rfl; apply Bin.lss
  apply OL.nx
  refine W.cond rfl (fun h => by simp at h; omega) (fun _ => ?_)
  apply W.skip
  with_reducible apply At.in_normal
  with_reducible apply At.next
  apply W.reg
  apply obn; rfl; rfl; rfl; apply Bin.add_in; omega
  apply omv; rfl; rfl
  apply OL.nil
  exact At.again (k + 1) (by omega) (by omega) (by rw [h1]; exact Sub.au) (fun w' hw' => hw')
 obtain rfl : k = L.length := by omega
 rw [List.take_length]
 have hGrow := fun w2 (hw2 : Cls [] [w] w2) => Grow2_calls (cntR2 L) w w2 hw2 ht
 refine W.xt ?_
 with_reducible apply At.next
 apply W.sr
 apply omv; rfl; rfl
 refine OL.callE (α := GR2) (fun z => .slice z.q 0 z.c) (fun _ => True) (fun z => Cls [row w.heap.size z.O z.q 0 z.c 35 1 []] [w]) rfl rfl (by exact Args.au) (fun w2 hw2 => (hGrow w2 hw2).mono fun e w3 ⟨O, q, c, h1, h2⟩ => ⟨⟨O, q, c⟩, h1, trivial, h2⟩) ?_
 rintro ⟨O1, q1, c1⟩ _
 simp only
 apply oas; rfl; rfl
 apply OL.nx
 apply W.seq
 apply W.sr
 apply omv; rfl; rfl
 apply oop; rfl; apply Pev.len_slice; rfl; exact yes; rfl
 apply omv; rfl; rfl
 apply OL.nx
 apply W.block
 refine W.loop (G := Nat × GR2) (fun g => g.1 ≤ L.length) (fun g => L.length - g.1)
  (fun g => [(6, true, .slice g.2.q (cntR2 (L.take g.1)) g.2.c), (25, true, .slice (some ⟨bP, 0, none⟩) L.length L.length), (26, true, .int .i64 (L.length : Int)), (27, true, .int .i64 (g.1 : Int))])
  (fun g => Cls [row w.heap.size g.2.O g.2.q (cntR2 (L.take g.1)) g.2.c 35 1 ((L.take g.1).flatMap parC2)] [w]) (0, ⟨O1, q1, c1⟩) (by simp) (by exact Sub.au) (fun w' hw' => by simpa [cntR2] using hw') ?_
 rintro ⟨k, ⟨O2, q2, c2⟩⟩ hk
 simp only at hk ⊢
 apply W.sr
 apply obn; rfl; rfl; rfl; apply Bin.lss
 apply OL.nx
 apply W.seq
 (refine W.cnd (fun hlt2 => ?_) (fun hlt2 => ?_)) <;> (try (exfalso; first | omega | exact hlt2 trivial | contradiction))
 ·have hkl : k < L.length := by omega
  obtain ⟨r, hr⟩ : ∃ r, L[k]? = some r := ⟨_, List.getElem?_eq_getElem hkl⟩
  have hc : w.cell? ⟨bP, 0 + (k : Int).toNat * 1, none⟩ = some (.slice r.2.1 r.1.length r.2.2) := by
   rw [blk_cell hb, show 0 + (k : Int).toNat * 1 = k by omega, List.getElem?_map, hr]; rfl
  have h1 := cntR2_take L k hr
  have h2 := cntR2_le L (k + 1)
  have h3 : (L.take (k + 1)).flatMap parC2 = (L.take k).flatMap parC2 ++ cat pthC r.1 := by
   rw [List.take_add_one, hr, Option.toList_some, List.flatMap_append]
   simp [parC2]
  have h4 := hL r (List.mem_of_getElem? hr)
  apply W.sk
  apply W.sb
  apply W.sr
  apply oop; rfl; apply Pev.idxB; rfl; exact yes; rfl; exact yes; rfl; intro hcond; omega; rfl
  apply oop; rfl; apply Pev.load_kept; rfl; exact yes; exact .head _; rfl; intro hcond; assumption; intro hcond; assumption; intro hcond; exact NotOwned.au
  apply oas; rfl; rfl
  apply OL.nx
  apply W.reg
  apply omv; rfl; rfl
  apply omv; rfl; rfl
  (apply OL.appendK (news := cat pthC r.1)); rfl; rfl; rfl; rfl; (exact Hole.au); (exact fun w2 hw2 => h4.keep (hw2.below (s := w) (by exact mau) (Nat.le_refl _) (fun k hk => NotOwned.row (by omega) NotOwned.nil)) (hw2.kp w (by exact mau)).size); (exact cat_length pthC_len _); (exact cat_oneL pthC_one _); (exact ⟨w, .head _, Nat.le_refl _⟩); (omega); (intro O3 q3 c3)
  apply oas; rfl; rfl
  apply OL.nil
  with_reducible apply At.in_normal
  with_reducible apply At.next
  apply W.reg
  apply obn; rfl; rfl; rfl; apply Bin.add_in; omega
  apply omv; rfl; rfl
  apply OL.nil
  exact At.again (k + 1, ⟨O3, q3, c3⟩) (by simp only; omega) (by simp only; omega) (by simp only [h1]; exact Sub.au) (fun w' hw' => by simp only [h1, h3]; exact hw')
 obtain rfl : k = L.length := by omega
 rw [List.take_length]
 refine W.xt ?_
 with_reducible apply At.next
 apply W.sr
 apply omv; rfl; rfl
 apply oas; rfl; rfl
 apply OL.nx
 apply W.ret
 ((with_reducible apply At.fin1); rfl; rfl; intro w' hw')
 exact ⟨O2, q2, c2, rfl, hw'⟩
theorem below_calls (q : Option Addr) (cap at_ many : Nat) (ps : List PathE) (w : World) (hlen : ps.length ≤ 100000) (hcap : ps.length ≤ cap) (hmany : many ≤ 100000) (h : SlAt w w.heap.size q (cat pthC ps)) (hp : ∀ p ∈ ps, SlAt w w.heap.size p.2.1 (intV p.1) ∧ 0 < p.1.length ∧ p.1.length ≤ 10000) (hat : at_ < ps.length) :
  Calls Try.prog 55 [.slice q ps.length cap, .int .i64 (at_ : Int), .int .i64 (many : Int)].toArray w fun e w' => ∃ (q' : Option Addr) (c' : Nat) (ps' : List PathE), e = .returned (.slice q' ps'.length c') ∧ ps'.map Prod.fst = belowM (ps.map Prod.fst) at_ many ∧ ps'.length ≤ c' ∧ FrS w w' (cat pthC ps') q' ∧ (∀ p ∈ ps', p ∈ ps ∨ (FrS w w' (intV p.1) p.2.1 ∧ 0 < p.1.length)) ∧ Ext w w' := by
 refine enter Try.func55 rfl Try.ntmps55 rfl (Cls.start w) ?_
 obtain ⟨a, p, hqa, hab, hpi, hcell⟩ := h.elem pthC_len (by decide) hat
 have hcell : w.cell? (a.add (at_ * 1)) = some (.slice p.2.1 p.1.length p.2.2) := hcell 0 _ rfl
 have hpm := List.mem_of_getElem? hpi
 obtain ⟨hpsl, hp0, hpl⟩ := hp p hpm
 (simp only [argEnv, Nat.zero_add, Nat.reduceAdd])
 rw [hqa]
 apply W.sr
 apply oas; rfl; rfl
 apply OL.nx
 apply W.seq
 apply W.regq; apply Split.s rfl; apply Split.s rfl; apply Split.s rfl; apply Split.s rfl; apply Split.s rfl; apply Split.s rfl; apply Split.s rfl; exact Split.z rfl; kernel_rfl; decide +kernel; exact fun w hw => hw.drew
 apply qmv; rfl; rfl
 apply qmv; rfl; rfl
 apply qop; rfl; apply Pev.slice_hi; rfl; exact yes; rfl; exact yes; rfl; rfl; intro hcond; omega
 apply qmv; rfl; rfl
 apply qmv; rfl; rfl
 apply qbn; rfl; rfl; rfl; apply Bin.add_in; omega
 apply qop; rfl; apply Pev.slice_lo; rfl; exact yes; rfl; exact yes; rfl; rfl; intro hcond; (simp only [Bool.and_eq_true, Bool.or_eq_true, Bool.not_eq_true', decide_eq_true_eq, decide_eq_false_iff_not] at *; omega)
 with_reducible apply QL.tail
 apply OL.buildSlice; rfl; rfl; rfl; exact Elems.au; rfl; rfl; (intro bk hbk; simp only [AllLe, and_true] at hbk)
 obtain ⟨A, hA⟩ : ∃ A, ps.take at_ = A := ⟨_, rfl⟩
 obtain ⟨B, hB⟩ : ∃ B, ps.drop (at_ + 1) = B := ⟨_, rfl⟩
 have hAl : at_ = A.length := by rw [← hA, List.length_take]; omega
 have hBl : ps.length - (at_ + 1) = B.length := by rw [← hB, List.length_drop]
 obtain ⟨N, hN⟩ : ∃ N, N = A ++ B := ⟨_, rfl⟩
 have hNl : N.length = A.length + B.length := by rw [hN, List.length_append]
 have hNm : ∀ x ∈ N, x ∈ ps := fun x hx => by
  rw [hN, ← hA, ← hB] at hx
  rcases List.mem_append.1 hx with hx | hx
  ·exact List.mem_of_mem_take hx
  ·exact List.mem_of_mem_drop hx
 refine OL.callE (α := (Nat → Prop) × Option Addr × Nat) (fun y => .slice y.2.1 N.length y.2.2) (fun y => True) (fun y => Cls [row w.heap.size y.1 y.2.1 N.length y.2.2 35 1 (cat pthC N), blk bk 70 [.slice (some a) at_ cap, .slice (cutq (some a) cap (at_ + 1) 1) (ps.length - (at_ + 1)) (cap - (at_ + 1))]] [w]) rfl rfl (by exact Args.au) (fun w2 hw2 => ?_) ?_
 ·have hb := hw2.item (i := blk bk 70 [.slice (some a) at_ cap, .slice (cutq (some a) cap (at_ + 1) 1) (ps.length - (at_ + 1)) (cap - (at_ + 1))]) (.head _)
  have hx2 := hw2.toExt (s := w) (.head _) (fun k hk => NotOwned.blk (by omega) .nil)
  have hsl : SlAt w2 w2.heap.size (some a) (cat pthC ps) := by
   rw [← hqa]
   exact SlAt.extS h hx2
  have htake := hsl.takeC at_
  have hdrop := hsl.dropC pthC_len hcap (at_ + 1)
  rw [hA] at htake
  rw [hB] at hdrop
  have hb2 : (blk bk 70 ([(A, (some a, cap)), (B, (cutq (some a) cap (at_ + 1) 1, cap - (at_ + 1)))].map slP2)).holds w2 := by
   rw [show ([(A, (some a, cap)), (B, (cutq (some a) cap (at_ + 1) 1, cap - (at_ + 1)))].map slP2) = [.slice (some a) A.length cap, .slice (cutq (some a) cap (at_ + 1) 1) B.length (cap - (at_ + 1))] from rfl, ← hAl, ← hBl]
   exact hb
  have hcnt : cntR2 [(A, (some a, cap)), (B, (cutq (some a) cap (at_ + 1) 1, cap - (at_ + 1)))] = N.length := by
   rw [hNl]
   simp [cntR2]
  have hflat : ([(A, (some a, cap)), (B, (cutq (some a) cap (at_ + 1) 1, cap - (at_ + 1)))] : List Par2).flatMap parC2 = cat pthC N := by
   rw [flat_cat2, hN]
   simp
  have hc := Concat2P_calls bk [(A, (some a, cap)), (B, (cutq (some a) cap (at_ + 1) 1, cap - (at_ + 1)))] w2 hb2 (fun x hx => by
   simp only [List.mem_cons, List.not_mem_nil, or_false] at hx
   rcases hx with rfl | rfl
   ·exact htake
   ·exact hdrop) (by simp) (by rw [hcnt]; omega)
  rw [hcnt, hflat] at hc
  refine hc.mono ?_
  rintro e w3 ⟨O3, q3, c3, k1, k2⟩
  exact ⟨(fun k => w2.heap.size ≤ k ∧ O3 k, q3, c3), k1, trivial, hw2.callee k2 (hw2.kp w (.head _)).size⟩
 rintro ⟨O3, q3, c3⟩ _
 simp only
 apply oas; rfl; rfl
 apply OL.nx
 apply W.seq
 apply W.sr
 apply omv; rfl; rfl
 apply omv; rfl; rfl
 apply OL.nx
 apply W.block
 refine W.loop (G := Nat × GP) (fun g => g.1 ≤ many ∧ g.2.ps.map Prod.fst = N.map Prod.fst ++ (List.range g.1).map (fun (k : Nat) => p.1 ++ [(k : Int)]) ∧ g.2.ps.length = N.length + g.1 ∧ ∀ x ∈ g.2.ps, x ∈ ps ∨ (InL g.2.L x.2.1 (intV x.1) ∧ 0 < x.1.length)) (fun g => many - g.1)
  (fun g => [(0, true, .slice (some a) ps.length cap), (1, true, .int .i64 (at_ : Int)), (7, true, .slice g.2.q g.2.ps.length g.2.c), (18, true, .int .i64 (many : Int)), (19, true, .int .i64 (g.1 : Int))])
  (fun g => Cls [row w.heap.size g.2.O g.2.q g.2.ps.length g.2.c 35 1 (cat pthC g.2.ps), arena w.heap.size g.2.OA g.2.L] [w]) (0, ⟨O3, q3, c3, N, fun _ => False, []⟩) ⟨Nat.zero_le _, by simp, rfl, fun x hx => .inl (hNm x hx)⟩ (by exact Sub.au) (fun w' hw' => (((hw'.thin (.keep (.blk (by simp only [AllLe, and_true]; omega) Thin.same))).arena_nil w.heap.size)).flip) ?_
 rintro ⟨i, ⟨Oo, qo, co, out, OA, L⟩⟩ ⟨hi, hout, houl, hok⟩
 simp only at hi hout houl hok ⊢
 have hno : ∀ k, k < w.heap.size → NotOwned [row w.heap.size Oo qo out.length co 35 1 (cat pthC out), arena w.heap.size OA L] k := fun k hk => NotOwned.row (by omega) (NotOwned.arena (by omega) .nil)
 have hNlen : N.length ≤ ps.length := by rw [hNl]; omega
 apply W.sr
 apply obn; rfl; rfl; rfl; apply Bin.lss
 apply OL.nx
 apply W.seq
 (refine W.cnd (fun hlt => ?_) (fun hlt => ?_)) <;> (try (exfalso; first | omega | exact hlt trivial | contradiction))
 ·apply W.sk
  apply W.sb
  apply W.sr
  apply omv; rfl; rfl
  apply oas; rfl; rfl
  apply OL.nx
  apply W.reg
  apply omv; rfl; rfl
  apply omv; rfl; rfl
  apply omv; rfl; rfl
  apply oop; rfl; apply Pev.idx; rfl; exact yes; rfl; exact yes; rfl; rfl; intro hcond; omega
  apply oop; rfl; apply Pev.load_kept; rfl; exact yes; exact .head _; rfl; intro hcond; assumption; intro hcond; (rw [add_block]; assumption); intro hcond; exact NotOwned.au
  refine OL.callE (α := (Nat → Prop) × Option Addr × Nat) (fun y => .slice y.2.1 p.1.length y.2.2) (fun y => True) (fun y => Cls [row w.heap.size y.1 y.2.1 p.1.length y.2.2 3 1 (intV p.1), row w.heap.size Oo qo out.length co 35 1 (cat pthC out), arena w.heap.size OA L] [w]) rfl rfl (by exact Args.au) (fun w2 hw2 => ?_) ?_
  ·refine (CloneI_calls p.2.1 p.2.2 p.1 w2 (by omega) (.inl hp0) (SlAt.extS hpsl (hw2.toExt (s := w) (.head _) hno))).mono ?_
   rintro e w3 ⟨O4, q4, c4, k1, k2⟩
   exact ⟨(fun k => w2.heap.size ≤ k ∧ O4 k, q4, c4), k1, trivial, hw2.callee k2 (hw2.kp w (.head _)).size⟩
  rintro ⟨O4, q4, c4⟩ _
  simp only
  apply omv; rfl; rfl
  apply OL.buildSlice; rfl; rfl; rfl; exact Elems.au; rfl; rfl; (intro bk hbk; simp only [AllLe, and_true] at hbk)
  apply OL.append; rfl; rfl; rfl; rfl; exact Hole.au; exact .head _; exact Take.au; rfl; rfl; exact ⟨_, .head _, Nat.le_refl _⟩; omega; intro O1 g1 cap1
  apply OL.buildSlice; rfl; rfl; rfl; exact Elems.au; rfl; rfl; (intro bk hbk; simp only [AllLe, and_true] at hbk)
  apply OL.append; rfl; rfl; rfl; rfl; exact Hole.au; exact .head _; exact Take.au; rfl; rfl; exact ⟨_, .head _, Nat.le_refl _⟩; omega; intro O1 g1 cap1
  apply oas; rfl; rfl
  apply OL.nil
  with_reducible apply At.in_normal
  with_reducible apply At.next
  apply W.reg
  apply obn; rfl; rfl; rfl; apply Bin.add_in; omega
  apply omv; rfl; rfl
  apply OL.nil
  rename_i b29 hb29 Oi gi ci
  obtain ⟨P1, hP1⟩ : ∃ P1, P1 = p.1 ++ [(i : Int)] := ⟨_, rfl⟩
  have hP1l : p.1.length + 1 = P1.length := by rw [hP1]; simp
  obtain ⟨un, hun⟩ : ∃ un : PathE, un = (P1, (some ⟨gi, 0, none⟩, ci)) := ⟨_, rfl⟩
  have e3 : intV p.1 ++ [Value.int .i64 (i : Int)] = intV P1 := by rw [hP1, intV_append]; rfl
  have e1 : out.length + 1 = (out ++ [un]).length := by simp
  have e2 : cat pthC out ++ [Value.slice (some ⟨gi, 0, none⟩) P1.length ci] = cat pthC (out ++ [un]) := by
   rw [cat_append, cat_one, hun]
   rfl
  rw [e1, e3, hP1l, e2]
  refine At.again (i + 1, ⟨O1, some ⟨g1, 0, none⟩, cap1, out ++ [un], fun k => OA k ∨ (row w.heap.size Oi (some ⟨gi, 0, none⟩) P1.length ci 3 1 (intV P1)).own k, L ++ slL (some ⟨gi, 0, none⟩) (intV P1)⟩) ⟨by simp only; omega, ?_, by simp only [← e1]; omega, fun x hx => (List.mem_append.1 hx).elim (fun hx => ?_) (fun hx => ?_)⟩ (by simp only; omega) (by exact Sub.au) (fun w' hw' => ?_)
  ·simp only [List.map_append, hout, hun, hP1, List.range_succ, List.map_cons, List.map_nil, List.append_assoc]
  ·refine (hok x hx).imp id (fun h => ⟨h.1.mono (fun y hy => List.mem_append_left _ hy), h.2⟩)
  ·rw [List.mem_singleton] at hx
   rw [hx, hun]
   exact .inr ⟨fun hl => ⟨_, rfl, List.mem_append_right _ (slL_in hl)⟩, by rw [← hP1l]; omega⟩
  ·have h3 := (hw'.thin (H' := [row w.heap.size Oi (some ⟨gi, 0, none⟩) P1.length ci 3 1 (intV P1), row w.heap.size O1 (some ⟨g1, 0, none⟩) (out ++ [un]).length cap1 35 1 (cat pthC (out ++ [un])), arena w.heap.size OA L]) (.blk (by simp only [AllLe, and_true]; omega) (.blk (by simp only [AllLe, and_true]; omega) Thin.same))).perm (List.Perm.cons _ (List.Perm.swap _ _ _))
   exact h3.arena_row.perm (List.Perm.swap _ _ _)
 ·obtain rfl : i = many := by omega
  refine W.xt ?_
  with_reducible apply At.next
  apply W.sr
  apply omv; rfl; rfl
  apply oas; rfl; rfl
  apply OL.nx
  apply W.ret
  ((with_reducible apply At.fin1); rfl; rfl; intro w' hw')
  refine ⟨qo, co, out, rfl, ?_, row_cap (hw'.item (.head _)), FrS.of_row hw' (.head _), fun x hx => (hok x hx).imp id (fun h => ⟨h.1.fr hw' (.tail _ (.head _)), h.2⟩), hw'.toExt (.head _) hno⟩
  rw [hout]
  unfold belowM
  rw [hN, List.map_append, ← hA, ← hB, List.map_take, List.map_drop, List.append_assoc]
  rw [show (List.map Prod.fst ps).getD at_ [] = p.1 by rw [List.getD_eq_getElem?_getD, List.getElem?_map, hpi]; rfl]
end Go.Proofs.Ytleggdmhihcafaa.pt

/- Plain: what patterns.check tells. No program in sight. No condition. -/
namespace Go.Pt
open Go.Eng
mutual
/-- the nodes of patterns, added up; whether they are few and not too deep -/
def szA : List Ty → Nat → Nat → Bool × Nat
 | [], _, m => (true, m)
 | p :: l, d, m => if 20 < d then (false, m) else if 400 < m + 1 then (false, m + 1) else if (szP p (d + 1) (m + 1)).1 then szA l d (szP p (d + 1) (m + 1)).2 else (false, (szP p (d + 1) (m + 1)).2)
def szP : Ty → Nat → Nat → Bool × Nat
 | .mk _ _ _ l, d, m => szA l d m
end
theorem szP_eq (p : Ty) (d m : Nat) : szP p d m = szA p.args d m := by
 cases p with
 | mk k nm n l => rw [szP]; rfl
mutual
theorem szA_le : ∀ (l : List Ty) (d m : Nat), m ≤ 400 → m ≤ (szA l d m).2 ∧ (szA l d m).2 ≤ 401 ∧ ((szA l d m).1 = true → (szA l d m).2 ≤ 400 ∧ wtA l + l.length ≤ 2 * ((szA l d m).2 - m))
 | [], d, m, hm => by
  simp only [szA, wtA, List.length_nil]
  omega
 | p :: l, d, m, hm => by
  rw [szA]
  by_cases h1 : 20 < d
  ·rw [if_pos h1]
   exact ⟨Nat.le_refl _, by omega, fun h => by cases h⟩
  rw [if_neg h1]
  by_cases h2 : 400 < m + 1
  ·rw [if_pos h2]
   exact ⟨by simp only; omega, by simp only; omega, fun h => by cases h⟩
  rw [if_neg h2]
  obtain ⟨g1, g2, g3⟩ := szP_le p (d + 1) (m + 1) (by omega)
  by_cases h3 : (szP p (d + 1) (m + 1)).1 = true
  ·rw [if_pos h3]
   obtain ⟨e1, e2⟩ := g3 h3
   obtain ⟨k1, k2, k3⟩ := szA_le l d (szP p (d + 1) (m + 1)).2 e1
   refine ⟨by omega, k2, fun h => ?_⟩
   obtain ⟨e3, e4⟩ := k3 h
   refine ⟨e3, ?_⟩
   rw [wtA, List.length_cons]
   omega
  ·rw [if_neg h3]
   exact ⟨by simp only; omega, g2, fun h => by cases h⟩
theorem szP_le : ∀ (p : Ty) (d m : Nat), m ≤ 400 → m ≤ (szP p d m).2 ∧ (szP p d m).2 ≤ 401 ∧ ((szP p d m).1 = true → (szP p d m).2 ≤ 400 ∧ wt p ≤ 2 * ((szP p d m).2 - m) + 1)
 | .mk k nm n l, d, m, hm => by
  obtain ⟨h1, h2, h3⟩ := szA_le l d m hm
  rw [szP]
  refine ⟨h1, h2, fun h => ?_⟩
  obtain ⟨e1, e2⟩ := h3 h
  refine ⟨e1, ?_⟩
  rw [wt]
  split <;> omega
end
def smR : List (List Ty) → Nat → Bool
 | [], _ => true
 | r :: rs, m => if 16 < r.length then false else if (szA r 1 m).1 then smR rs (szA r 1 m).2 else false
theorem smR_wt : ∀ (rows : List (List Ty)) (m : Nat), m ≤ 400 → smR rows m = true → (∀ r ∈ rows, r.length ≤ 16) ∧ wtR rows + 2 * m ≤ 800
 | [], m, hm, _ => ⟨fun r hr => (by cases hr), by simp only [wtR]; omega⟩
 | r :: rs, m, hm, h => by
  rw [smR] at h
  by_cases h1 : 16 < r.length
  ·rw [if_pos h1] at h; cases h
  rw [if_neg h1] at h
  by_cases h2 : (szA r 1 m).1 = true
  ·rw [if_pos h2] at h
   obtain ⟨_, _, g⟩ := szA_le r 1 m hm
   obtain ⟨g1, g2⟩ := g h2
   obtain ⟨k1, k2⟩ := smR_wt rs _ g1 h
   refine ⟨fun s hs => ?_, ?_⟩
   ·rcases List.mem_cons.1 hs with rfl | hs
    ·omega
    ·exact k1 s hs
   ·rw [wtR]
    have := (szA_le r 1 m hm).1
    omega
  ·rw [if_neg h2] at h; cases h
def smallE (D : List Da) (rows : List (List Ty)) : Bool := smR rows 0 && (decide (rows.length ≤ 64) && !D.any fun d => decide (256 < d.cons.length))
/-! the forms of patterns -/
mutual
def patE (D : List Da) : Ty → Int
 | .mk k nm n l => if k = 0 ∨ k = 1 then 0 else if k = 2 then (if n < -1073741824 ∨ 1073741823 < n then 4 else 0) else if k = 3 then (match conAt D nm with
   | none => 6
   | some (_, c) => if l.length = c.many then patL D l else 3)
  else 3
def patL (D : List Da) : List Ty → Int
 | [] => 0
 | p :: l => if patE D p = 0 then patL D l else patE D p
end
mutual
theorem patE_wf (D : List Da) : ∀ p : Ty, patE D p = 0 → Wf D p
 | .mk k nm n l, h => by
  rw [patE] at h
  by_cases h1 : k = 0 ∨ k = 1
  ·refine .fr ?_
   unfold free
   rcases h1 with rfl | rfl <;> rfl
  rw [if_neg h1] at h
  by_cases h2 : k = 2
  ·rw [if_pos h2] at h
   by_cases h3 : n < -1073741824 ∨ 1073741823 < n
   ·rw [if_pos h3] at h; cases h
   ·exact .int h2 (show n ≤ 1073741823 by omega)
  rw [if_neg h2] at h
  by_cases h3 : k = 3
  ·rw [if_pos h3] at h
   cases hc : conAt D nm with
   | none => rw [hc] at h; cases h
   | some z =>
    obtain ⟨d, c⟩ := z
    rw [hc] at h
    simp only at h
    by_cases h4 : l.length = c.many
    ·rw [if_pos h4] at h
     exact .con h3 hc h4 (patL_wf D l h)
    ·rw [if_neg h4] at h; cases h
  ·rw [if_neg h3] at h; cases h
theorem patL_wf (D : List Da) : ∀ l : List Ty, patL D l = 0 → ∀ p ∈ l, Wf D p
 | [], _, p, hp => by cases hp
 | q :: l, h, p, hp => by
  rw [patL] at h
  by_cases h1 : patE D q = 0
  ·rw [if_pos h1] at h
   rcases List.mem_cons.1 hp with e | hp
   ·rw [e]
    exact patE_wf D q h1
   ·exact patL_wf D l h p hp
  ·rw [if_neg h1] at h
   exact absurd h h1
end
/-! patterns of one type -/
def kindE (D : List Da) (p : Ty) : Int := if p.kind = 2 then -1 else if p.kind = 3 then (match conAt D p.name with
 | none => 0
 | some (d, _) => (d : Int)) else -2
def nf (l : List Ty) : List Ty := l.filter fun p => !free p
def oneKind (D : List Da) (l : List Ty) : Bool := match l with
 | [] => true
 | p :: r => (p :: r).all fun q => decide (kindE D q = kindE D p)
def agrE (D : List Da) : Nat → List Ty → Bool
 | 0, _ => true
 | f + 1, l => oneKind D (nf l) && (List.range (nf l).length).all fun k => match (nf l)[k]? with
  | none => true
  | some p => ((nf l).take k).any (fun q => decide (q.name = p.name)) || (decide (p.kind ≠ 3) || (List.range p.args.length).all fun n => agrE D f (under (nf l) p.name n))
theorem nf_mem {l : List Ty} {p : Ty} : p ∈ nf l ↔ p ∈ l ∧ free p = false := by
 unfold nf
 rw [List.mem_filter]
 simp
theorem first_name : ∀ (l : List Ty) (p : Ty), p ∈ l → ∃ (k : Nat) (q : Ty), l[k]? = some q ∧ q.name = p.name ∧ (l.take k).any (fun z => decide (z.name = q.name)) = false
 | x :: l, p, hp => by
  by_cases hx : x.name = p.name
  ·exact ⟨0, x, rfl, hx, rfl⟩
  ·rcases List.mem_cons.1 hp with rfl | hp
   ·exact absurd rfl hx
   ·obtain ⟨k, q, h1, h2, h3⟩ := first_name l p hp
    refine ⟨k + 1, q, by simpa using h1, h2, ?_⟩
    rw [List.take_succ_cons, List.any_cons, h3, Bool.or_false, decide_eq_false_iff_not, h2]
    exact hx
theorem sz_args (p : Ty) : p.sz = Ty.szs p.args + 1 := by
 cases p with
 | mk k nm n l => simp only [Ty.sz, Ty.args]
theorem under_sz (nm : ByteArray) (n : Nat) : ∀ l : List Ty, Ty.szs (under l nm n) ≤ Ty.szs l
 | [] => Nat.le_refl _
 | p :: l => by
  have ih := under_sz nm n l
  unfold under at ih ⊢
  rw [List.filterMap_cons]
  by_cases hc : free p = false ∧ p.name = nm
  ·rw [if_pos hc]
   cases ha : p.args[n]? with
   | none => simp only [Ty.szs]; omega
   | some a =>
    simp only [Ty.szs]
    have := Ty.sz_get ha
    have := sz_args p
    omega
  ·rw [if_neg hc]
   simp only [Ty.szs]
   omega
theorem under_lt {l : List Ty} {p : Ty} (hp : p ∈ l) (hf : free p = false) {n : Nat} (hn : n < p.args.length) : Ty.szs (under l p.name n) < Ty.szs l := by
 induction l with
 | nil => cases hp
 | cons q l ih =>
  have h2 := under_sz p.name n l
  unfold under at ih h2 ⊢
  rw [List.filterMap_cons]
  rcases List.mem_cons.1 hp with rfl | hp
  ·rw [if_pos ⟨hf, rfl⟩, List.getElem?_eq_getElem hn]
   simp only [Ty.szs]
   have := Ty.sz_get (List.getElem?_eq_getElem hn)
   have := sz_args p
   omega
  ·have ih := ih hp
   by_cases hc : free q = false ∧ q.name = p.name
   ·rw [if_pos hc]
    cases ha : q.args[n]? with
    | none => simp only [Ty.szs]; omega
    | some a =>
     simp only [Ty.szs]
     have := Ty.sz_get ha
     have := sz_args q
     omega
   ·rw [if_neg hc]
    simp only [Ty.szs]
    omega
theorem nf_sz : ∀ l : List Ty, Ty.szs (nf l) ≤ Ty.szs l
 | [] => Nat.le_refl _
 | p :: l => by
  have ih := nf_sz l
  unfold nf at ih ⊢
  rw [List.filter_cons]
  split <;> simp only [Ty.szs] <;> omega
theorem agrE_agr (D : List Da) : ∀ (f : Nat) (l : List Ty), Ty.szs l < f → (∀ p ∈ l, Wf D p) → agrE D f l = true → Agr D l
 | 0, l, hf, _, _ => by omega
 | f + 1, l, hf, hw, h => by
  rw [agrE, Bool.and_eq_true, List.all_eq_true] at h
  obtain ⟨h1, h2⟩ := h
  have hk : ∀ p ∈ l, ∀ q ∈ l, free p = false → free q = false → kindE D p = kindE D q := fun p hp q hq hpf hqf => by
   have hp' := nf_mem.2 ⟨hp, hpf⟩
   have hq' := nf_mem.2 ⟨hq, hqf⟩
   cases hn : nf l with
   | nil => rw [hn] at hp'; cases hp'
   | cons x r =>
    rw [hn] at h1 hp' hq'
    simp only [oneKind, List.all_eq_true, decide_eq_true_eq] at h1
    rw [h1 p hp', h1 q hq']
  have hkk : ∀ p ∈ l, ∀ q ∈ l, free p = false → free q = false → p.kind = q.kind ∧ (p.kind = 3 → dOf D p.name = dOf D q.name) := fun p hp q hq hpf hqf => by
   have e := hk p hp q hq hpf hqf
   have kp := (hw p hp).kinds hpf
   have kq := (hw q hq).kinds hqf
   unfold kindE at e
   rcases kp with kp | kp <;> rcases kq with kq | kq
   ·exact ⟨by rw [kp, kq], fun h => by omega⟩
   ·rw [if_pos kp, if_neg (by omega), if_pos kq] at e
    split at e <;> omega
   ·rw [if_neg (by omega), if_pos kp, if_pos kq] at e
    split at e <;> omega
   ·rw [if_neg (by omega), if_pos kp, if_neg (by omega), if_pos kq] at e
    obtain ⟨d, c, g1, _⟩ := (hw p hp).cons kp
    obtain ⟨d', c', g2, _⟩ := (hw q hq).cons kq
    rw [g1, g2] at e
    simp only at e
    refine ⟨by rw [kp, kq], fun _ => ?_⟩
    rw [dOf_of g1, dOf_of g2]
    congr 1
    omega
  refine .mk hkk (fun p hp hpf hpk n hn => ?_)
  obtain ⟨k, q, g1, g2, g3⟩ := first_name (nf l) p (nf_mem.2 ⟨hp, hpf⟩)
  have hq := nf_mem.1 (List.mem_of_getElem? g1)
  have h4 := h2 k (List.mem_range.2 (List.getElem?_eq_some_iff.1 g1).1)
  rw [g1] at h4
  simp only [g3, Bool.false_or, Bool.or_eq_true, decide_eq_true_eq, List.all_eq_true, List.mem_range] at h4
  have hqk : q.kind = 3 := by rw [(hkk q hq.1 p hp hq.2 hpf).1, hpk]
  have hql : q.args.length = p.args.length := by
   obtain ⟨d, c, e1, e2, _⟩ := (hw p hp).cons hpk
   obtain ⟨d', c', e3, e4, _⟩ := (hw q hq.1).cons hqk
   rw [g2, e1] at e3
   cases e3
   omega
  have h5 := h4.resolve_left (by simp [hqk]) n (by omega)
  rw [g2] at h5
  have hlt := under_lt (l := nf l) (p := p) (nf_mem.2 ⟨hp, hpf⟩) hpf hn
  have hsz := nf_sz l
  have hag := agrE_agr D f (under (nf l) p.name n) (by omega) (fun z hz => by
   obtain ⟨r, k1, k2, k3, k4⟩ := under_mem.1 hz
   obtain ⟨k5, k6⟩ := nf_mem.1 k1
   have hrk : r.kind = 3 := by rw [(hkk r k5 p hp k6 hpf).1, hpk]
   obtain ⟨_, _, _, _, k7⟩ := (hw r k5).cons hrk
   exact k7 z (List.mem_of_getElem? k4)) h5
  refine hag.mono (sub.of fun z hz => ?_)
  obtain ⟨r, k1, k2, k3, k4⟩ := under_mem.1 hz
  exact under_mem.2 ⟨r, nf_mem.2 ⟨k1, k2⟩, k2, k3, k4⟩
/-! the whole check -/
def flatN (D : List Da) : List ByteArray := D.flatMap fun d => d.cons.map (·.name)
def patR (D : List Da) : List (List Ty) → Int
 | [] => 0
 | r :: rs => if patL D r = 0 then patR D rs else patL D r
def fuelC (rows : List (List Ty)) (k : Nat) : Nat := Ty.szs (col rows k) + 1
def checkE (D : List Da) (rows : List (List Ty)) : Int :=
 if smallE D rows = false then 2 else if ¬ (flatN D).Nodup then 7 else match rows with
 | [] => 0
 | r0 :: rs => if (r0 :: rs).all (fun r => decide (r.length = r0.length)) = false then 3 else if patR D (r0 :: rs) ≠ 0 then patR D (r0 :: rs) else if (List.range r0.length).all (fun k => agrE D (fuelC (r0 :: rs) k) (col (r0 :: rs) k)) = false then 10 else 0
theorem conAt_uniq : ∀ {D : List Da}, (flatN D).Nodup → Uniq D
 | [], _, i, c, hc => by simp [consOf] at hc
 | x :: D, h, i, c, hc => by
  unfold flatN at h
  rw [List.flatMap_cons, List.nodup_append] at h
  obtain ⟨h1, h2, h3⟩ := h
  have find_of : ∀ (l : List Co), (l.map (·.name)).Nodup → c ∈ l → conIn l c.name = some c := fun l => by
   induction l with
   | nil => intro _ h; cases h
   | cons y l ih =>
    intro hn hm
    rw [List.map_cons, List.nodup_cons] at hn
    unfold conIn
    rw [List.find?_cons]
    rcases List.mem_cons.1 hm with rfl | hm
    ·simp
    ·have : y.name ≠ c.name := fun e => hn.1 (by rw [e]; exact List.mem_map_of_mem hm)
     rw [decide_eq_false this]
     exact ih hn.2 hm
  cases i with
  | zero =>
   have hc : c ∈ x.cons := hc
   unfold conAt
   rw [find_of _ h1 hc]
  | succ i =>
   have hc : c ∈ consOf D i := hc
   have ih := conAt_uniq (D := D) h2 i c hc
   unfold conAt
   have hno : conIn x.cons c.name = none := by
    unfold conIn
    rw [List.find?_eq_none]
    intro y hy e
    have e : y.name = c.name := by simpa using e
    have hcm : c.name ∈ D.flatMap fun d => d.cons.map (·.name) := by
     unfold consOf at hc
     cases hx : D[i]? with
     | none => rw [hx] at hc; cases hc
     | some d =>
      rw [hx] at hc
      exact List.mem_flatMap.2 ⟨d, List.mem_of_getElem? hx, List.mem_map_of_mem hc⟩
    exact h3 _ (List.mem_map_of_mem hy) _ hcm e
   rw [hno, ih]
   rfl
theorem patR_wf (D : List Da) : ∀ rows : List (List Ty), patR D rows = 0 → ∀ r ∈ rows, ∀ p ∈ r, Wf D p
 | [], _, r, hr => by cases hr
 | s :: rs, h, r, hr => by
  rw [patR] at h
  by_cases h1 : patL D s = 0
  ·rw [if_pos h1] at h
   rcases List.mem_cons.1 hr with rfl | hr
   ·exact patL_wf D r h1
   ·exact patR_wf D rs h r hr
  ·rw [if_neg h1] at h
   exact absurd h h1
theorem checkE_ok {D : List Da} {rows : List (List Ty)} (h : checkE D rows = 0) : Uniq D ∧ rows.length ≤ 64 ∧ wtR rows ≤ 800 ∧ ∃ cols, (∀ r0 rs, rows = r0 :: rs → cols = r0.length) ∧ cols ≤ 16 ∧ Mat D rows cols := by
 unfold checkE at h
 by_cases h1 : smallE D rows = false
 ·rw [if_pos h1] at h; cases h
 rw [if_neg h1] at h
 by_cases h2 : ¬ (flatN D).Nodup
 ·rw [if_pos h2] at h; cases h
 rw [if_neg h2] at h
 have h2 : (flatN D).Nodup := Decidable.not_not.1 h2
 have h1 : smallE D rows = true := by simpa using h1
 unfold smallE at h1
 rw [Bool.and_eq_true, Bool.and_eq_true, decide_eq_true_eq] at h1
 obtain ⟨s1, s2⟩ := smR_wt rows 0 (by omega) h1.1
 refine ⟨conAt_uniq h2, h1.2.1, by omega, ?_⟩
 cases rows with
 | nil => exact ⟨0, fun r0 rs e => (by cases e), by omega, fun r hr => (by cases hr), fun r hr => (by cases hr), fun k => Agr.nil⟩
 | cons r0 rs =>
  simp only at h
  by_cases h3 : (r0 :: rs).all (fun r => decide (r.length = r0.length)) = false
  ·rw [if_pos h3] at h; cases h
  rw [if_neg h3] at h
  by_cases h4 : patR D (r0 :: rs) ≠ 0
  ·rw [if_pos h4] at h
   exact absurd h h4
  rw [if_neg h4] at h
  by_cases h5 : (List.range r0.length).all (fun k => agrE D (fuelC (r0 :: rs) k) (col (r0 :: rs) k)) = false
  ·rw [if_pos h5] at h; cases h
  simp only [Bool.not_eq_false, List.all_eq_true, decide_eq_true_eq, List.mem_range] at h3 h5
  have hwf := patR_wf D _ (Decidable.not_not.1 h4)
  refine ⟨r0.length, fun a b e => by cases e; rfl, s1 r0 (.head _), h3, hwf, fun k => ?_⟩
  by_cases hk : k < r0.length
  ·exact agrE_agr D _ _ (Nat.lt_succ_self _) (fun p hp => by
    obtain ⟨r, g1, g2⟩ := col_mem.1 hp
    exact hwf r g1 p (List.mem_of_getElem? g2)) (h5 k hk)
  ·refine Agr.nil.mono (fun p hp _ => ?_)
   obtain ⟨r, g1, g2⟩ := col_mem.1 hp
   have := (List.getElem?_eq_some_iff.1 g2).1
   rw [h3 r g1] at this
   exact absurd this hk
end Go.Pt

/- The walks of patterns.size and small. Conditions: none. -/
namespace Go.Proofs.Ytleggdmhihcafaa.pt
open Go.RowKit Go.Eng Go.Pt
set_option maxRecDepth 100000
theorem size_calls (b : Nat) (s0 : World) (hb : s0.heap.size ≤ b) : ∀ (n : Nat) (q : Option Addr) (cap : Nat) (ps : List (Ty × PY)) (d m : Nat) (w : World), Ty.szs (ps.map Prod.fst) < n → ps.length ≤ 9223372036854775807 → Arr tyR s0 (low s0) ps q → d ≤ 21 → m ≤ 400 → Cls [blk b 3 [.int .i64 (m : Int)]] [s0] w →
  Calls Try.prog 66 [.slice q ps.length cap, .int .i64 (d : Int), .pointer (some ⟨b, 0, none⟩)].toArray w fun e w' => e = .returned (.bool (szA (ps.map Prod.fst) d m).1) ∧ Cls [blk b 3 [.int .i64 ((szA (ps.map Prod.fst) d m).2 : Int)]] [s0] w' := by
 intro n
 induction n with
 | zero =>
  intro q cap ps d m w hn
  omega
 | succ n ih =>
  intro q cap ps d m w hn hlen h hd hm hw
  refine enter Try.func66 rfl Try.ntmps66 rfl hw ?_
  (simp only [argEnv, Nat.zero_add, Nat.reduceAdd])
  apply W.sr
  apply oas; rfl; rfl
  apply OL.nx
  apply W.seq
  apply W.sr
  apply omv; rfl; rfl
  apply obn; rfl; rfl; rfl; apply Bin.gtr
  apply OL.nx
  (refine W.cnd (fun hd20 => ?_) (fun hd20 => ?_)) <;> (try (exfalso; first | omega | exact hd20 trivial | contradiction))
  ·have he : szA (ps.map Prod.fst) d m = (decide (ps.length = 0), m) := by
    cases ps with
    | nil => rfl
    | cons p r => rw [List.map_cons, szA, if_pos (by omega)]; rfl
   rw [he]
   apply W.sr
   apply omv; rfl; rfl
   apply oop; rfl; apply Pev.len_slice; rfl; exact yes; rfl
   apply obn; rfl; rfl; rfl; apply Bin.eql
   apply oas; rfl; rfl
   apply OL.nx
   refine W.rt ?_
   ((with_reducible apply At.fin1); rfl; rfl; intro w' hw')
   exact ⟨by simp, hw'⟩
  apply W.sk
  apply W.seq
  apply W.sr
  apply omv; rfl; rfl
  apply oop; rfl; apply Pev.len_slice; rfl; exact yes; rfl
  apply omv; rfl; rfl
  apply OL.nx
  apply W.block
  refine W.loop (G := Nat × Nat) (fun g => g.1 ≤ ps.length ∧ g.2 ≤ 400 ∧ szA ((ps.drop g.1).map Prod.fst) d g.2 = szA (ps.map Prod.fst) d m) (fun g => ps.length - g.1)
   (fun g => [(1, true, .int .i64 (d : Int)), (2, true, .pointer (some ⟨b, 0, none⟩)), (14, true, .slice q ps.length cap), (15, true, .int .i64 (ps.length : Int)), (16, true, .int .i64 (g.1 : Int))])
   (fun g => Cls [blk b 3 [.int .i64 (g.2 : Int)]] [s0]) (0, m) ⟨Nat.zero_le _, hm, rfl⟩ (by exact Sub.au) (fun w' hw' => hw') ?_
  rintro ⟨i, mi⟩ ⟨hi, hmi, hrest⟩
  simp only at hi hmi hrest ⊢
  apply W.sr
  apply obn; rfl; rfl; rfl; apply Bin.lss
  apply OL.nx
  apply W.seq
  (refine W.cnd (fun hlt => ?_) (fun hlt => ?_)) <;> (try (exfalso; first | omega | exact hlt trivial | contradiction))
  ·obtain ⟨a, u, rfl, hab, hu, hcell, hok⟩ := h.get (show i < ps.length by omega)
   have hab : a.block < s0.heap.size := hab
   have hcell : CellsAt s0 (a.add (i * 4)) [.int .i64 u.1.kind, .string u.1.name, .int .i64 u.1.var, .slice u.2.1 u.1.args.length u.2.2] := hcell
   obtain ⟨pz, hpz, hpza, hpzl, _⟩ := pat_kids hok
   have hpzl2 : pz.length = u.1.args.length := by rw [← hpz, List.length_map]
   have hdr : ps.drop i = u :: ps.drop (i + 1) := by
    have hl : i < ps.length := by omega
    rw [List.drop_eq_getElem_cons hl]
    rw [List.getElem?_eq_getElem hl] at hu
    rw [Option.some.inj hu]
   rw [hdr, List.map_cons, szA, if_neg (by omega)] at hrest
   have husz : Ty.szs (pz.map Prod.fst) < n := by
    have h1 := Ty.sz_get (i := i) (t := u.1) (show (ps.map Prod.fst)[i]? = some u.1 by rw [List.getElem?_map, hu]; rfl)
    have h2 := sz_args u.1
    rw [hpz]
    omega
   by_cases h400 : 400 < mi + 1
   ·rw [if_pos h400] at hrest
    rw [← hrest]
    apply W.sk
    apply W.sb
    apply W.sr
    apply oop; rfl; apply Pev.idx; rfl; exact yes; rfl; exact yes; rfl; rfl; intro hcond; omega
    apply oop; rfl; apply Pev.load_keptA; rfl; exact yes; exact .head _; rfl; intro hcond; assumption; rfl; intro hcond; (rw [add_block]; assumption); intro hcond; exact NotOwned.au
    apply OL.alloc; rfl; rfl; exact CellsL.agg; (intro bk hbk; simp only [AllLe, and_true] at hbk)
    apply OL.storeB; rfl; rfl; exact CellsL.agg; rfl; rfl; rfl; exact Swap.au; exact Put.au
    apply OL.nsr
    apply omv; rfl; rfl
    apply oop; rfl; apply Pev.nil_ptr; rfl; exact yes
    apply old; rfl; rfl; exact .tail _ (.head _); rfl; rfl
    apply obn; rfl; rfl; rfl; apply Bin.add_in; omega
    apply oop; rfl; apply Pev.nil_ptr; rfl; exact yes
    apply OL.storeB; rfl; rfl; exact CellsL.one rfl; rfl; rfl; rfl; exact Swap.au; exact Put.au
    apply OL.nsr
    apply omv; rfl; rfl
    apply oop; rfl; apply Pev.nil_ptr; rfl; exact yes
    apply old; rfl; rfl; exact .tail _ (.head _); rfl; rfl
    apply obn; rfl; rfl; rfl; apply Bin.gtr
    apply omv; rfl; rfl
    apply ono; rfl; rfl; rfl; apply Pev.fld; rfl; exact yes; rfl
    apply ono; rfl; rfl; rfl; apply Pev.load_blk; rfl; exact fun h => h; exact .head _; rfl; rfl
    apply ono; rfl; rfl; rfl; apply Pev.move; rfl; exact yes
    apply ono; rfl; rfl; rfl; apply Pev.bin; rfl; exact fun h => h; rfl; exact yes; intro hcond; apply Bin.add_in; omega
    apply ono; rfl; rfl; rfl; apply Pev.move; rfl; exact yes
    apply OL.gateOff; exact Guard.no rfl rfl; (simp; omega); rfl
    apply OL.gateOff; exact Guard.no rfl rfl; (simp; omega); rfl
    apply oop; rfl; apply Pev.pick_on; rfl; exact yes; (intro hcond; simp; omega); rfl; exact yes
    apply OL.nx
    refine W.cond rfl (fun _ => ?_) (fun hb => by cases hb)
    apply W.sr
    apply oas; rfl; rfl
    apply OL.nx
    refine W.rt ?_
    ((with_reducible apply At.fin1); rfl; rfl; intro w' hw')
    exact ⟨rfl, hw'.thin (.blk (by simp only [AllLe, and_true]; omega) Thin.same)⟩
   ·rw [if_neg h400] at hrest
    have hgt : (!decide ((400 : Int) < (mi : Int) + 1)) = true := by simp; omega
    apply W.sk
    apply W.sb
    apply W.sr
    apply oop; rfl; apply Pev.idx; rfl; exact yes; rfl; exact yes; rfl; rfl; intro hcond; omega
    apply oop; rfl; apply Pev.load_keptA; rfl; exact yes; exact .head _; rfl; intro hcond; assumption; rfl; intro hcond; (rw [add_block]; assumption); intro hcond; exact NotOwned.au
    apply OL.alloc; rfl; rfl; exact CellsL.agg; (intro bk hbk; simp only [AllLe, and_true] at hbk)
    apply OL.storeB; rfl; rfl; exact CellsL.agg; rfl; rfl; rfl; exact Swap.au; exact Put.au
    apply OL.nsr
    apply omv; rfl; rfl
    apply oop; rfl; apply Pev.nil_ptr; rfl; exact yes
    apply old; rfl; rfl; exact .tail _ (.head _); rfl; rfl
    apply obn; rfl; rfl; rfl; apply Bin.add_in; omega
    apply oop; rfl; apply Pev.nil_ptr; rfl; exact yes
    apply OL.storeB; rfl; rfl; exact CellsL.one rfl; rfl; rfl; rfl; exact Swap.au; exact Put.au
    apply OL.nsr
    apply omv; rfl; rfl
    apply oop; rfl; apply Pev.nil_ptr; rfl; exact yes
    apply old; rfl; rfl; exact .tail _ (.head _); rfl; rfl
    apply obn; rfl; rfl; rfl; apply Bin.gtr
    apply omv; rfl; rfl
    apply ono; rfl; rfl; rfl; apply Pev.fld; rfl; exact yes; rfl
    apply ono; rfl; rfl; rfl; apply Pev.load_blk; rfl; exact fun h => h; exact .head _; rfl; rfl
    apply ono; rfl; rfl; rfl; apply Pev.move; rfl; exact yes
    apply ono; rfl; rfl; rfl; apply Pev.bin; rfl; exact fun h => h; rfl; exact yes; intro hcond; apply Bin.add_in; omega
    apply ono; rfl; rfl; rfl; apply Pev.move; rfl; exact yes
    rw [hgt]
    ((apply OL.ungate); (exact Guard.au); (exact hgt))
    refine OL.callE (α := Unit) (fun _ => .bool (szP u.1 (d + 1) (mi + 1)).1) (fun _ => True) (fun _ => Cls [blk b 3 [.int .i64 ((szP u.1 (d + 1) (mi + 1)).2 : Int)]] [s0]) rfl rfl (by exact Args.au) (fun w2 hw2 => ?_) ?_
    ·have hc := ih u.2.1 u.2.2 pz (d + 1) (mi + 1) w2 husz (by omega) hpza (by omega) (by omega) (hw2.thin (.blk (by simp only [AllLe, and_true]; omega) Thin.same))
     rw [hpzl2, hpz, ← szP_eq] at hc
     exact hc.mono (fun e w3 h => ⟨(), h.1, trivial, h.2⟩)
    intro _ _
    have hle := szP_le u.1 (d + 1) (mi + 1) (by omega)
    apply ono; rfl; rfl; rfl; apply Pev.not; rfl; exact yes
    apply oop; rfl; apply Pev.pick_or; rfl; exact yes; rfl; exact fun h => h
    apply OL.nx
    refine W.cond rfl (fun hb => ?_) (fun hb => ?_)
    ·have hb : (szP u.1 (d + 1) (mi + 1)).1 = false := by
      cases hx : (szP u.1 (d + 1) (mi + 1)).1 with
      | false => rfl
      | true => rw [hx] at hb; simp at hb; omega
     rw [if_neg (by rw [hb]; decide)] at hrest
     rw [← hrest]
     apply W.sr
     apply oas; rfl; rfl
     apply OL.nx
     refine W.rt ?_
     ((with_reducible apply At.fin1); rfl; rfl; intro w' hw')
     exact ⟨rfl, hw'⟩
    ·have hb : (szP u.1 (d + 1) (mi + 1)).1 = true := by
      cases hx : (szP u.1 (d + 1) (mi + 1)).1 with
      | true => rfl
      | false => rw [hx] at hb; simp at hb
     rw [if_pos hb] at hrest
     apply W.skip
     with_reducible apply At.in_normal
     with_reducible apply At.next
     apply W.reg
     apply obn; rfl; rfl; rfl; apply Bin.add_in; omega
     apply omv; rfl; rfl
     apply OL.nil
     exact At.again (i + 1, (szP u.1 (d + 1) (mi + 1)).2) ⟨by simp only; omega, (hle.2.2 hb).1, hrest⟩ (by simp only; omega) (by exact Sub.au) (fun w' hw' => hw')
  ·rw [List.drop_eq_nil_of_le (by omega)] at hrest
   rw [← hrest]
   refine W.xt ?_
   with_reducible apply At.next
   apply W.sr
   apply oas; rfl; rfl
   apply OL.nx
   apply W.ret
   ((with_reducible apply At.fin1); rfl; rfl; intro w' hw')
   exact ⟨rfl, hw'⟩
/-! the data types -/
def idxD (f : Da → Bool) : List (Da × DY) → Nat → Int
 | [], _ => -1
 | p :: r, i => if f p.1 then (i : Int) else idxD f r (i + 1)
theorem idxD_drop {f : Da → Bool} {ps : List (Da × DY)} {i : Nat} {p : Da × DY} (h : ps[i]? = some p) : idxD f (ps.drop i) i = if f p.1 then (i : Int) else idxD f (ps.drop (i + 1)) (i + 1) := by
 obtain ⟨h1, rfl⟩ := List.getElem?_eq_some_iff.1 h
 rw [List.drop_eq_getElem_cons h1, idxD]
theorem idxD_any (f : Da → Bool) : ∀ (ps : List (Da × DY)) (i : Nat), decide (0 ≤ idxD f ps i) = (ps.map Prod.fst).any f
 | [], i => rfl
 | p :: r, i => by
  rw [idxD, List.map_cons, List.any_cons]
  split
  ·rename_i h
   rw [h, Bool.true_or]
   simp
  ·rename_i h
   rw [idxD_any f r (i + 1), Bool.not_eq_true] at *
   simp [h]
theorem small1_calls (x : Da) (y : DY) (w : World) : Calls Try.prog 68 [.agg (datR.cells x y).toArray].toArray w fun e w' => e = .returned (.bool (decide (256 < x.cons.length))) ∧ Ext w w' := by
 refine enter Try.func68 rfl Try.ntmps68 rfl (Cls.start w) ?_
 (simp only [argEnv, Nat.zero_add, Nat.reduceAdd])
 simp only [datR]
 apply W.sr
 apply OL.box; rfl; rfl; exact CellsL.agg; (intro bk hbk; simp only [AllLe, and_true] at hbk)
 apply oas; rfl; rfl
 apply OL.nsr
 apply ofa; rfl; rfl; rfl
 apply old; rfl; rfl; exact .head _; rfl; rfl
 apply oop; rfl; apply Pev.len_slice; rfl; exact yes; rfl
 apply obn; rfl; rfl; rfl; apply Bin.gtr
 apply oas; rfl; rfl
 apply OL.nx
 apply W.ret
 ((with_reducible apply At.fin1); rfl; rfl; intro w' hw')
 exact ⟨congrArg (fun b => Ending.returned (Value.bool b)) (decide_eq_decide.2 (by omega)), by (exact hw'.fr)⟩
theorem DIndexFunc_calls (q : Option Addr) (cap : Nat) (ps : List (Da × DY)) (w : World) (hlen : ps.length ≤ 9223372036854775807) (h : Arr datR w (low w) ps q) :
  Calls Try.prog 89 #[.slice q ps.length cap, .func (.func 68) #[] #[]] w fun e w' => e = .returned (.int .i64 (idxD (fun x => decide (256 < x.cons.length)) ps 0)) ∧ Ext w w' := by
 refine enter Try.func89 rfl Try.ntmps89 rfl (Cls.start w) ?_
 obtain ⟨p, hp⟩ : ∃ p : Da → Bool, (fun x : Da => decide (256 < x.cons.length)) = p := ⟨_, rfl⟩
 rw [hp]
 (simp only [argEnv, Nat.zero_add, Nat.reduceAdd])
 apply W.sr
 apply oas; rfl; rfl
 apply OL.nx
 apply W.seq
 apply W.sr
 apply omv; rfl; rfl
 apply oop; rfl; apply Pev.len_slice; rfl; exact yes; rfl
 apply omv; rfl; rfl
 apply OL.nx
 apply W.block
 refine W.loop (G := Nat) (fun i => i ≤ ps.length ∧ idxD p (ps.drop i) i = idxD p ps 0) (fun i => ps.length - i)
  (fun i => [(8, true, .int .i64 (i : Int)), (7, true, .int .i64 (ps.length : Int)), (0, true, .slice q ps.length cap), (1, true, .func (.func 68) #[] #[])])
  (fun i => Cls [] [w]) 0 ⟨by omega, rfl⟩ (by exact Sub.au) (fun w' hw' => hw') ?_
 rintro i ⟨hi, hrest⟩
 apply W.sr
 apply obn; rfl; rfl; rfl; apply Bin.lss
 apply OL.nx
 apply W.seq
 (refine W.cnd (fun hlt => ?_) (fun hlt => ?_)) <;> (try (exfalso; first | omega | exact hlt trivial | contradiction))
 ·obtain ⟨a, u, rfl, hab, hu, hcell, hok⟩ := h.get (show i < ps.length by omega)
  have hab : a.block < w.heap.size := hab
  have hcell : CellsAt w (a.add (i * 3)) [.string u.2.name, .int .i64 u.2.params, .slice u.2.q u.1.cons.length u.2.cap] := hcell
  have hpu : ∀ w3, Calls Try.prog 68 (([] : List Value) ++ [Value.agg #[.string u.2.name, .int .i64 u.2.params, .slice u.2.q u.1.cons.length u.2.cap]] ++ []).toArray w3 fun e w' => e = .returned (.bool (p u.1)) ∧ Ext w3 w' := fun w3 => by
   rw [← hp]
   exact small1_calls u.1 u.2 w3
  rw [idxD_drop hu] at hrest
  apply W.sk
  apply W.sb
  apply W.sr
  apply omv; rfl; rfl
  apply oas; rfl; rfl
  apply OL.nsr
  apply omv; rfl; rfl
  apply omv; rfl; rfl
  apply omv; rfl; rfl
  apply oop; rfl; apply Pev.idx; rfl; exact yes; rfl; exact yes; rfl; rfl; intro hcond; omega
  apply oop; rfl; apply Pev.load_keptA; rfl; exact yes; exact .head _; rfl; intro hcond; assumption; rfl; intro hcond; (rw [add_block]; assumption); intro hcond; exact NotOwned.au
  (((first | (with_reducible apply OL.op) | (with_reducible apply QL.op)); (exact Guard.au); rfl; rfl); (apply Pev.callv (first := []) (cap := [])); rfl; ((first | exact fun _ => rfl | exact fun h => h | (intro h; simp_all; done))); rfl; (exact Args.au); (exact (fun _ w2 hw2 => (hpu w2).mono (fun e w3 h => ⟨h.1, hw2.ext h.2⟩))))
  apply OL.nx
  refine W.cond rfl (fun heq => ?_) (fun heq => ?_)
  ·rw [if_pos heq] at hrest
   apply W.sr
   apply omv; rfl; rfl
   apply oas; rfl; rfl
   apply OL.nx
   refine W.rt ?_
   ((with_reducible apply At.fin1); rfl; rfl; intro w' hw')
   exact ⟨by rw [hrest], by (exact hw'.fr)⟩
  ·rw [if_neg (by simpa using heq)] at hrest
   apply W.skip
   with_reducible apply At.in_normal
   with_reducible apply At.next
   apply W.reg
   apply obn; rfl; rfl; rfl; apply Bin.add_in; omega
   apply omv; rfl; rfl
   apply OL.nil
   exact At.again (i + 1) ⟨by omega, hrest⟩ (by omega) (by exact Sub.au) (fun w' hw' => hw'.thin (by exact Thin.au))
 ·rw [List.drop_eq_nil_of_le (by omega), idxD] at hrest
  refine W.xt ?_
  with_reducible apply At.next
  apply W.sr
  apply oas; rfl; rfl
  apply OL.nx
  apply W.ret
  ((with_reducible apply At.fin1); rfl; rfl; intro w' hw')
  exact ⟨by rw [← hrest], by (exact hw'.fr)⟩
theorem DContainsFunc_calls (q : Option Addr) (cap : Nat) (ps : List (Da × DY)) (w : World) (hlen : ps.length ≤ 9223372036854775807) (h : Arr datR w (low w) ps q) :
  Calls Try.prog 67 #[.slice q ps.length cap, .func (.func 68) #[] #[]] w fun e w' => e = .returned (.bool ((ps.map Prod.fst).any fun x => decide (256 < x.cons.length))) ∧ Ext w w' := by
 refine enter Try.func67 rfl Try.ntmps67 rfl (Cls.start w) ?_
 (simp only [argEnv, Nat.zero_add, Nat.reduceAdd])
 apply W.sr
 apply oas; rfl; rfl
 apply OL.nsr
 apply omv; rfl; rfl
 apply omv; rfl; rfl
 (((first | (with_reducible apply OL.op) | (with_reducible apply QL.op)); (exact Guard.au); rfl; rfl); (exact Pev.call rfl (by exact Args.au) (fun _ w2 hw2 => (DIndexFunc_calls q cap ps w2 hlen (h.at hw2 (by exact mau) (fun k hk => by exact NotOwned.au))).mono (fun e w3 h => ⟨h.1, hw2.ext h.2⟩))))
 apply obn; rfl; rfl; rfl; apply Bin.geq
 apply oas; rfl; rfl
 apply OL.nx
 apply W.ret
 ((with_reducible apply At.fin1); rfl; rfl; intro w' hw')
 exact ⟨by rw [← idxD_any _ ps 0], by (exact hw'.fr)⟩
theorem small_calls (qd : Option Addr) (cd : Nat) (ds : List (Da × DY)) (q : Option Addr) (cap : Nat) (rs : List (List Ty × PY)) (w : World) (hdl : ds.length ≤ 9223372036854775807) (hd : Arr datR w (low w) ds qd) (hlen : rs.length ≤ 9223372036854775807) (h : Arr patsR w (low w) rs q) :
  Calls Try.prog 33 [.slice qd ds.length cd, .slice q rs.length cap].toArray w fun e w' => e = .returned (.bool (smallE (ds.map Prod.fst) (rs.map Prod.fst))) ∧ Ext w w' := by
 refine enter Try.func33 rfl Try.ntmps33 rfl (Cls.start w) ?_
 (simp only [argEnv, Nat.zero_add, Nat.reduceAdd])
 apply W.sr
 apply oas; rfl; rfl
 apply OL.nsr
 apply OL.alloc; rfl; rfl; exact CellsL.one rfl; (intro bk hbk; simp only [AllLe, and_true] at hbk)
 apply OL.storeB; rfl; rfl; exact CellsL.one rfl; rfl; rfl; rfl; exact Swap.au; exact Put.au
 apply OL.nx
 apply W.seq
 apply W.sr
 apply omv; rfl; rfl
 apply oop; rfl; apply Pev.len_slice; rfl; exact yes; rfl
 apply omv; rfl; rfl
 apply OL.nx
 apply W.block
 revert bk
 intro b hb
 refine W.loop (G := Nat × Nat) (fun g => g.1 ≤ rs.length ∧ g.2 ≤ 400 ∧ smR ((rs.drop g.1).map Prod.fst) g.2 = smR (rs.map Prod.fst) 0) (fun g => rs.length - g.1)
  (fun g => [(0, true, .slice qd ds.length cd), (1, true, .slice q rs.length cap), (5, true, .pointer (some ⟨b, 0, none⟩)), (8, true, .slice q rs.length cap), (9, true, .int .i64 (rs.length : Int)), (10, true, .int .i64 (g.1 : Int))])
  (fun g => Cls [blk b 3 [.int .i64 (g.2 : Int)]] [w]) (0, 0) ⟨Nat.zero_le _, Nat.zero_le _, rfl⟩ (by exact Sub.au) (fun w' hw' => hw') ?_
 rintro ⟨i, mi⟩ ⟨hi, hmi, hrest⟩
 simp only at hi hmi hrest ⊢
 have hsm : smR (rs.map Prod.fst) 0 = false → smallE (ds.map Prod.fst) (rs.map Prod.fst) = false := fun e => by unfold smallE; rw [e, Bool.false_and]
 apply W.sr
 apply obn; rfl; rfl; rfl; apply Bin.lss
 apply OL.nx
 apply W.seq
 (refine W.cnd (fun hlt => ?_) (fun hlt => ?_)) <;> (try (exfalso; first | omega | exact hlt trivial | contradiction))
 ·obtain ⟨a, u, rfl, hab, hu, hcell, hok⟩ := h.get (show i < rs.length by omega)
  have hab : a.block < w.heap.size := hab
  have hcell : w.cell? (a.add (i * 1)) = some (.slice u.2.1 u.1.length u.2.2) := hcell 0 _ rfl
  obtain ⟨⟨pr, hpr, hpra⟩, hrc, hrl⟩ := hok
  have hprl : pr.length = u.1.length := by rw [← hpr, List.length_map]
  have hdr : rs.drop i = u :: rs.drop (i + 1) := by
   have hl : i < rs.length := by omega
   rw [List.drop_eq_getElem_cons hl]
   rw [List.getElem?_eq_getElem hl] at hu
   rw [Option.some.inj hu]
  rw [hdr, List.map_cons, smR] at hrest
  by_cases h16 : 16 < u.1.length
  ·rw [if_pos h16] at hrest
   rw [hsm hrest.symm]
   apply W.sk
   apply W.sb
   apply W.sr
   apply oop; rfl; apply Pev.idx; rfl; exact yes; rfl; exact yes; rfl; rfl; intro hcond; omega
   apply oop; rfl; apply Pev.load_kept; rfl; exact yes; exact .head _; rfl; intro hcond; assumption; intro hcond; (rw [add_block]; assumption); intro hcond; exact NotOwned.au
   apply oas; rfl; rfl
   apply OL.nsr
   apply omv; rfl; rfl
   apply oop; rfl; apply Pev.len_slice; rfl; exact yes; rfl
   apply obn; rfl; rfl; rfl; apply Bin.gtr
   apply omv; rfl; rfl
   apply ono; rfl; rfl; rfl; apply Pev.move; rfl; exact yes
   apply OL.gateOff; exact Guard.no rfl rfl; (simp; omega); rfl
   apply OL.gateOff; exact Guard.no rfl rfl; (simp; omega); rfl
   apply oop; rfl; apply Pev.pick_on; rfl; exact yes; (intro hcond; simp; omega); rfl; exact yes
   apply OL.nx
   refine W.cond rfl (fun _ => ?_) (fun hb => by simp at hb)
   apply W.sr
   apply oas; rfl; rfl
   apply OL.nx
   refine W.rt ?_
   ((with_reducible apply At.fin1); rfl; rfl; intro w' hw')
   exact ⟨rfl, by (exact hw'.fr)⟩
  ·rw [if_neg h16] at hrest
   have hgt : (!decide ((16 : Int) < (u.1.length : Int))) = true := by simp; omega
   apply W.sk
   apply W.sb
   apply W.sr
   apply oop; rfl; apply Pev.idx; rfl; exact yes; rfl; exact yes; rfl; rfl; intro hcond; omega
   apply oop; rfl; apply Pev.load_kept; rfl; exact yes; exact .head _; rfl; intro hcond; assumption; intro hcond; (rw [add_block]; assumption); intro hcond; exact NotOwned.au
   apply oas; rfl; rfl
   apply OL.nsr
   apply omv; rfl; rfl
   apply oop; rfl; apply Pev.len_slice; rfl; exact yes; rfl
   apply obn; rfl; rfl; rfl; apply Bin.gtr
   apply omv; rfl; rfl
   apply ono; rfl; rfl; rfl; apply Pev.move; rfl; exact yes
   rw [hgt]
   ((apply OL.ungate); (exact Guard.au); (exact hgt))
   refine OL.callE (α := Unit) (fun _ => .bool (szA u.1 1 mi).1) (fun _ => True) (fun _ => Cls [blk b 3 [.int .i64 ((szA u.1 1 mi).2 : Int)]] [w]) rfl rfl (by exact Args.au) (fun w2 hw2 => ?_) ?_
   ·have hc := size_calls b w hb (Ty.szs (pr.map Prod.fst) + 1) u.2.1 u.2.2 pr 1 mi w2 (Nat.lt_succ_self _) (by omega) hpra (by omega) hmi hw2
    rw [hprl, hpr] at hc
    exact hc.mono (fun e w3 h => ⟨(), h.1, trivial, h.2⟩)
   intro _ _
   have hle := szA_le u.1 1 mi hmi
   apply ono; rfl; rfl; rfl; apply Pev.not; rfl; exact yes
   apply oop; rfl; apply Pev.pick_or; rfl; exact yes; rfl; exact fun h => h
   apply OL.nx
   refine W.cond rfl (fun hb => ?_) (fun hb => ?_)
   ·have hb : (szA u.1 1 mi).1 = false := by
     cases hx : (szA u.1 1 mi).1 with
     | false => rfl
     | true => rw [hx] at hb; simp at hb; omega
    rw [if_neg (by rw [hb]; decide)] at hrest
    rw [hsm hrest.symm]
    apply W.sr
    apply oas; rfl; rfl
    apply OL.nx
    refine W.rt ?_
    ((with_reducible apply At.fin1); rfl; rfl; intro w' hw')
    exact ⟨rfl, by (exact hw'.fr)⟩
   ·have hb : (szA u.1 1 mi).1 = true := by
     cases hx : (szA u.1 1 mi).1 with
     | true => rfl
     | false => rw [hx] at hb; simp at hb
    rw [if_pos hb] at hrest
    apply W.skip
    with_reducible apply At.in_normal
    with_reducible apply At.next
    apply W.reg
    apply obn; rfl; rfl; rfl; apply Bin.add_in; omega
    apply omv; rfl; rfl
    apply OL.nil
    exact At.again (i + 1, (szA u.1 1 mi).2) ⟨by simp only; omega, (hle.2.2 hb).1, hrest⟩ (by simp only; omega) (by exact Sub.au) (fun w' hw' => hw')
 ·rw [List.drop_eq_nil_of_le (by omega)] at hrest
  have hsE : smallE (ds.map Prod.fst) (rs.map Prod.fst) = (decide (rs.length ≤ 64) && !(ds.map Prod.fst).any fun x => decide (256 < x.cons.length)) := by
   unfold smallE
   rw [← hrest, List.length_map]
   rfl
  rw [hsE]
  refine W.xt ?_
  with_reducible apply At.next
  apply W.sr
  apply omv; rfl; rfl
  apply oop; rfl; apply Pev.len_slice; rfl; exact yes; rfl
  apply obn; rfl; rfl; rfl; apply Bin.leq
  apply omv; rfl; rfl
  apply oy; rfl; rfl; rfl; apply Pev.move; rfl; exact yes
  (((first | (with_reducible apply OL.op) | (with_reducible apply QL.op)); (exact Guard.au); rfl; rfl); (refine Pev.call (v := .bool ((ds.map Prod.fst).any fun x => decide (256 < x.cons.length))) rfl (by exact Args.au) (fun _ w2 hw2 => (DContainsFunc_calls qd cd ds w2 hdl (hd.at hw2 (.head _) (fun k hk => by exact NotOwned.au))).mono (fun e w3 h => ⟨h.1, hw2.ext h.2⟩))))
  apply oy; rfl; rfl; rfl; apply Pev.not; rfl; exact fun h => h
  apply oop; rfl; apply Pev.pick_and; rfl; exact yes; rfl; exact fun h => h
  apply oas; rfl; rfl
  apply OL.nx
  apply W.ret
  ((with_reducible apply At.fin1); rfl; rfl; intro w' hw')
  exact ⟨by rw [show decide ((rs.length : Int) ≤ 64) = decide (rs.length ≤ 64) from decide_eq_decide.2 (by omega)], by (exact hw'.fr)⟩
end Go.Proofs.Ytleggdmhihcafaa.pt

/- The walks of patterns' kind and pattern. Conditions: none. -/
namespace Go.Proofs.Ytleggdmhihcafaa.pt
open Go.RowKit Go.Eng Go.Pt
set_option maxRecDepth 100000
theorem kind_calls (T : TT) (p : Ty) (y : PY) (w : World) (hT : T.ok w) : Calls Try.prog 70 [T.v, .agg (tyc p y).toArray].toArray w fun e w' => e = .returned (.int .i64 (kindE T.D p)) ∧ Ext w w' := by
 refine enter Try.func70 rfl Try.ntmps70 rfl (Cls.start w) ?_
 unfold TT.v
 (simp only [argEnv, Nat.zero_add, Nat.reduceAdd])
 simp only [tyc]
 apply W.sr
 apply OL.box; rfl; rfl; exact CellsL.agg; (intro bk hbk; simp only [AllLe, and_true] at hbk)
 apply OL.box; rfl; rfl; exact CellsL.agg; (intro bk hbk; simp only [AllLe, and_true] at hbk)
 apply oas; rfl; rfl
 apply OL.nx
 apply W.seq
 apply W.sr
 apply ofa; rfl; rfl; rfl
 apply old; rfl; rfl; exact .head _; rfl; rfl
 apply OL.nx
 apply W.block
 apply W.sr
 apply obn; rfl; rfl; rfl; apply Bin.eql
 apply oas; rfl; rfl
 apply OL.nx
 rename_i b0 hb0
 (refine W.cnd (fun h2 => ?_) (fun h2 => ?_)) <;> (try (exfalso; first | omega | exact h2 trivial | contradiction))
 ·apply W.sr
  apply oas; rfl; rfl
  apply OL.nx
  refine W.rt ?_
  ((with_reducible apply At.fin1); rfl; rfl; intro w' hw')
  exact ⟨by unfold kindE; rw [if_pos h2], by (exact hw'.fr)⟩
 apply W.sr
 apply obn; rfl; rfl; rfl; apply Bin.eql
 apply oas; rfl; rfl
 apply OL.nx
 (refine W.cnd (fun h3 => ?_) (fun h3 => ?_)) <;> (try (exfalso; first | omega | exact h3 trivial | contradiction))
 ·have hno : ∀ k, k < w.heap.size → NotOwned [blk bk 50 [.int .i64 p.kind, .string p.name, .int .i64 p.var, .slice y.1 p.args.length y.2], blk b0 55 [.slice T.q T.ds.length T.c, .map (some T.b)]] k := fun k hk => NotOwned.blk (by omega) (NotOwned.blk (by omega) .nil)
  obtain ⟨ix, mm, hmg⟩ : ∃ (ix mm : Int), (mget T.m p.name).getD (.agg #[.int .i64 0, .int .i64 0, .int .i64 0]) = .agg #[.int .i64 (kindE T.D p), .int .i64 ix, .int .i64 mm] := by
   unfold kindE
   rw [if_neg h2, if_pos h3]
   cases hc : conAt T.D p.name with
   | none => exact ⟨0, 0, by rw [hT.tab.none hc]; rfl⟩
   | some z =>
    obtain ⟨d, c⟩ := z
    obtain ⟨i, hi⟩ := hT.tab.con hc
    exact ⟨i, c.many, by rw [hi]; rfl⟩
  apply W.sr
  apply ofa; rfl; rfl; rfl
  apply old; rfl; rfl; exact .tail _ (.head _); rfl; rfl
  apply ofa; rfl; rfl; rfl
  apply old; rfl; rfl; exact .head _; rfl; rfl
  (((first | (with_reducible apply OL.op) | (with_reducible apply QL.op)); (exact Guard.au); rfl; rfl); (refine Pev.lookup_v (m := T.m) (v := .agg #[.int .i64 (kindE T.D p), .int .i64 ix, .int .i64 mm]) (zv := .agg #[.int .i64 0, .int .i64 0, .int .i64 0]) rfl (by (first | exact fun _ => rfl | exact fun h => h | (intro h; simp_all; done))) rfl (by (first | exact fun _ => rfl | exact fun h => h | (intro h; simp_all; done))) rfl rfl (fun w2 hw2 => (hT.at hw2 (by exact mau) hno).map_) hmg))
  apply oop; rfl; apply Pev.field; rfl; exact yes; rfl; rfl
  apply oas; rfl; rfl
  apply OL.nx
  refine W.rt ?_
  ((with_reducible apply At.fin1); rfl; rfl; intro w' hw')
  exact ⟨rfl, by (exact hw'.fr)⟩
 ·apply W.skip
  with_reducible apply At.in_normal
  with_reducible apply At.next
  apply W.sr
  apply oas; rfl; rfl
  apply OL.nx
  apply W.ret
  ((with_reducible apply At.fin1); rfl; rfl; intro w' hw')
  exact ⟨by unfold kindE; rw [if_neg h2, if_neg h3], by (exact hw'.fr)⟩
theorem pattern_calls (T : TT) : ∀ (n : Nat) (p : Ty) (y : PY) (w : World), p.sz < n → T.ok w → TyO w (low w) p y →
  Calls Try.prog 35 [T.v, .agg (tyc p y).toArray].toArray w fun e w' => e = .returned (.int .i64 (patE T.D p)) ∧ Ext w w' := by
 intro n
 induction n with
 | zero => intro p y w hn; omega
 | succ n ih =>
  intro p y w hn hT hp
  obtain ⟨pz, hpz, hpza, hpzl, _⟩ := pat_kids hp
  have hpzl2 : pz.length = p.args.length := by rw [← hpz, List.length_map]
  have hpe : patE T.D p = if p.kind = 0 ∨ p.kind = 1 then 0 else if p.kind = 2 then (if p.var < -1073741824 ∨ 1073741823 < p.var then 4 else 0) else if p.kind = 3 then (match conAt T.D p.name with
   | none => 6
   | some (_, c) => if p.args.length = c.many then patL T.D p.args else 3)
   else 3 := by
   cases p with
   | mk k nm m l => rw [patE]; rfl
  refine enter Try.func35 rfl Try.ntmps35 rfl (Cls.start w) ?_
  unfold TT.v
  (simp only [argEnv, Nat.zero_add, Nat.reduceAdd])
  simp only [tyc]
  apply W.sr
  apply OL.box; rfl; rfl; exact CellsL.agg; (intro bk hbk; simp only [AllLe, and_true] at hbk)
  apply OL.box; rfl; rfl; exact CellsL.agg; (intro bk hbk; simp only [AllLe, and_true] at hbk)
  apply oas; rfl; rfl
  apply OL.nx
  apply W.seq
  apply W.sr
  apply ofa; rfl; rfl; rfl
  apply old; rfl; rfl; exact .head _; rfl; rfl
  apply OL.nx
  apply W.block
  apply W.seq
  apply W.sr
  apply obn; rfl; rfl; rfl; apply Bin.eql
  apply oas; rfl; rfl
  apply OL.nx
  rename_i b0 hb0
  revert bk
  intro b1 hb1
  have hno : ∀ k, k < w.heap.size → NotOwned [blk b1 50 [.int .i64 p.kind, .string p.name, .int .i64 p.var, .slice y.1 p.args.length y.2], blk b0 55 [.slice T.q T.ds.length T.c, .map (some T.b)]] k := fun k hk => NotOwned.blk (by omega) (NotOwned.blk (by omega) .nil)
  by_cases h01 : p.kind = 0 ∨ p.kind = 1
  ·rw [hpe, if_pos h01]
   (refine W.cnd (fun h0 => ?_) (fun h0 => ?_)) <;> (try (exfalso; first | omega | exact h0 trivial | contradiction))
   ·apply W.sk
    refine W.cond rfl (fun _ => ?_) (fun hb => by simp at hb; omega)
    apply W.sr
    apply oas; rfl; rfl
    apply OL.nx
    refine W.rt ?_
    ((with_reducible apply At.fin1); rfl; rfl; intro w' hw')
    exact ⟨rfl, by (exact hw'.fr)⟩
   ·apply W.reg
    apply obn; rfl; rfl; rfl; apply Bin.eql
    apply oas; rfl; rfl
    apply OL.nx
    refine W.cond rfl (fun _ => ?_) (fun hb => by simp at hb; omega)
    apply W.sr
    apply oas; rfl; rfl
    apply OL.nx
    refine W.rt ?_
    ((with_reducible apply At.fin1); rfl; rfl; intro w' hw')
    exact ⟨rfl, by (exact hw'.fr)⟩
  rw [if_neg h01] at hpe
  refine W.cond rfl (fun hb => by simp at hb; omega) (fun _ => ?_)
  apply W.reg
  apply obn; rfl; rfl; rfl; apply Bin.eql
  apply oas; rfl; rfl
  apply OL.nx
  refine W.cond rfl (fun hb => by simp at hb; omega) (fun _ => ?_)
  apply W.sr
  apply obn; rfl; rfl; rfl; apply Bin.eql
  apply oas; rfl; rfl
  apply OL.nx
  by_cases h2 : p.kind = 2
  ·rw [if_pos h2] at hpe
   refine W.cond rfl (fun _ => ?_) (fun hb => by simp at hb; omega)
   apply W.seq
   apply W.sr
   apply ofa; rfl; rfl; rfl
   apply old; rfl; rfl; exact .head _; rfl; rfl
   apply obn; rfl; rfl; rfl; apply Bin.lss
   apply omv; rfl; rfl
   apply ono; rfl; rfl; rfl; apply Pev.fld; rfl; exact yes; rfl
   apply ono; rfl; rfl; rfl; apply Pev.load_blk; rfl; exact fun h => h; exact .head _; rfl; rfl
   apply ono; rfl; rfl; rfl; apply Pev.bin; rfl; exact fun h => h; rfl; exact yes; intro hcond; apply Bin.gtr
   apply oop; rfl; apply Pev.pick_or; rfl; exact yes; rfl; exact fun h => h
   apply OL.nx
   refine W.cond rfl (fun hb => ?_) (fun hb => ?_)
   ·have hb : p.var < -1073741824 ∨ 1073741823 < p.var := by simpa using hb
    rw [hpe, if_pos hb]
    apply W.sr
    apply oas; rfl; rfl
    apply OL.nx
    refine W.rt ?_
    ((with_reducible apply At.fin1); rfl; rfl; intro w' hw')
    exact ⟨rfl, by (exact hw'.fr)⟩
   ·have hb : ¬ (p.var < -1073741824 ∨ 1073741823 < p.var) := by
     simp at hb
     omega
    rw [hpe, if_neg hb]
    apply W.sk
    apply W.sr
    apply oas; rfl; rfl
    apply OL.nx
    refine W.rt ?_
    ((with_reducible apply At.fin1); rfl; rfl; intro w' hw')
    exact ⟨rfl, by (exact hw'.fr)⟩
  rw [if_neg h2] at hpe
  refine W.cond rfl (fun hb => by simp at hb; omega) (fun _ => ?_)
  apply W.sr
  apply obn; rfl; rfl; rfl; apply Bin.eql
  apply oas; rfl; rfl
  apply OL.nx
  by_cases h3 : p.kind = 3
  ·rw [if_pos h3] at hpe
   refine W.cond rfl (fun _ => ?_) (fun hb => by simp at hb; omega)
   cases hc : conAt T.D p.name with
   | none =>
    rw [hc] at hpe
    simp only at hpe
    rw [hpe]
    have hmg := hT.tab.none hc
    apply W.skip
    with_reducible apply At.in_normal
    with_reducible apply At.next
    apply W.sr
    apply ofa; rfl; rfl; rfl
    apply old; rfl; rfl; exact .tail _ (.head _); rfl; rfl
    apply ofa; rfl; rfl; rfl
    apply old; rfl; rfl; exact .head _; rfl; rfl
    (((first | (with_reducible apply OL.op) | (with_reducible apply QL.op)); (exact Guard.au); rfl; rfl); (refine Pev.conv (Pev.lookup2_h (m := T.m) (zv := .agg #[.int .i64 0, .int .i64 0, .int .i64 0]) rfl (by (first | exact fun _ => rfl | exact fun h => h | (intro h; simp_all; done))) rfl (by (first | exact fun _ => rfl | exact fun h => h | (intro h; simp_all; done))) rfl rfl (fun w2 hw2 => (hT.at hw2 (by exact mau) hno).map_)) (v' := .tuple #[.agg #[.int .i64 0, .int .i64 0, .int .i64 0], .bool false]) (by rw [hmg]; rfl)))
    apply omv; rfl; rfl
    apply oex; rfl; rfl; rfl
    apply oex; rfl; rfl; rfl
    apply OL.alloc; rfl; rfl; exact CellsL.agg; (intro bk hbk; simp only [AllLe, and_true] at hbk)
    apply OL.storeB; rfl; rfl; exact CellsL.agg; rfl; rfl; rfl; exact Swap.au; exact Put.au
    apply oas; rfl; rfl
    apply OL.nx
    apply W.sb
    apply W.sr
    apply omv; rfl; rfl
    apply oop; rfl; apply Pev.not; rfl; exact yes
    apply oas; rfl; rfl
    apply OL.nx
    refine W.cond rfl (fun _ => ?_) (fun hb => by cases hb)
    apply W.sr
    apply oas; rfl; rfl
    apply OL.nx
    refine W.rt ?_
    ((with_reducible apply At.fin1); rfl; rfl; intro w' hw')
    exact ⟨rfl, by (exact hw'.fr)⟩
   | some z =>
    obtain ⟨d, c⟩ := z
    rw [hc] at hpe
    simp only at hpe
    obtain ⟨ix, hmg⟩ := hT.tab.con hc
    apply W.skip
    with_reducible apply At.in_normal
    with_reducible apply At.next
    apply W.sr
    apply ofa; rfl; rfl; rfl
    apply old; rfl; rfl; exact .tail _ (.head _); rfl; rfl
    apply ofa; rfl; rfl; rfl
    apply old; rfl; rfl; exact .head _; rfl; rfl
    (((first | (with_reducible apply OL.op) | (with_reducible apply QL.op)); (exact Guard.au); rfl; rfl); (refine Pev.conv (Pev.lookup2_h (m := T.m) (zv := .agg #[.int .i64 0, .int .i64 0, .int .i64 0]) rfl (by (first | exact fun _ => rfl | exact fun h => h | (intro h; simp_all; done))) rfl (by (first | exact fun _ => rfl | exact fun h => h | (intro h; simp_all; done))) rfl rfl (fun w2 hw2 => (hT.at hw2 (by exact mau) hno).map_)) (v' := .tuple #[.agg #[.int .i64 (d : Int), .int .i64 ix, .int .i64 (c.many : Int)], .bool true]) (by rw [hmg]; rfl)))
    apply omv; rfl; rfl
    apply oex; rfl; rfl; rfl
    apply oex; rfl; rfl; rfl
    apply OL.alloc; rfl; rfl; exact CellsL.agg; (intro bk hbk; simp only [AllLe, and_true] at hbk)
    apply OL.storeB; rfl; rfl; exact CellsL.agg; rfl; rfl; rfl; exact Swap.au; exact Put.au
    apply oas; rfl; rfl
    apply OL.nx
    apply W.sb
    apply W.sr
    apply omv; rfl; rfl
    apply oop; rfl; apply Pev.not; rfl; exact yes
    apply oas; rfl; rfl
    apply OL.nx
    refine W.cond rfl (fun hb => by cases hb) (fun _ => ?_)
    apply W.sr
    apply ofa; rfl; rfl; rfl
    apply old; rfl; rfl; exact .tail _ (.head _); rfl; rfl
    apply oop; rfl; apply Pev.len_slice; rfl; exact yes; rfl
    apply ofa; rfl; rfl; rfl
    apply old; rfl; rfl; exact .head _; rfl; rfl
    apply obn; rfl; rfl; rfl; apply Bin.neq
    apply oas; rfl; rfl
    apply OL.nx
    by_cases hl : p.args.length = c.many
    ·rw [if_pos hl] at hpe
     refine W.cond rfl (fun hb => by simp at hb; omega) (fun _ => ?_)
     revert bk
     intro b5 hb5
     refine W.cls (C' := Cls [blk b5 96 [.int .i64 (d : Int), .int .i64 ix, .int .i64 (c.many : Int)], blk b1 50 [.int .i64 p.kind, .string p.name, .int .i64 p.var, .slice y.1 p.args.length y.2], blk b0 55 [.slice T.q T.ds.length T.c, .map (some T.b)]] [w]) (fun w' hw' => hw') ?_
     apply W.skip
     with_reducible apply At.in_normal
     with_reducible apply At.next
     apply W.seq
     apply W.sr
     apply ofa; rfl; rfl; rfl
     apply old; rfl; rfl; exact .tail _ (.head _); rfl; rfl
     apply oop; rfl; apply Pev.len_slice; rfl; exact yes; rfl
     apply omv; rfl; rfl
     apply OL.nx
     apply W.block
     refine W.loop (G := Nat) (fun i => i ≤ pz.length ∧ patL T.D ((pz.drop i).map Prod.fst) = patL T.D p.args) (fun i => pz.length - i)
      (fun i => [(2, true, .pointer (some ⟨b0, 0, none⟩)), (46, true, .slice y.1 p.args.length y.2), (47, true, .int .i64 (p.args.length : Int)), (48, true, .int .i64 (i : Int))])
      (fun i => Cls [blk b0 55 [.slice T.q T.ds.length T.c, .map (some T.b)]] [w]) 0 ⟨Nat.zero_le _, by rw [List.drop_zero, hpz]⟩ (by exact Sub.au) (fun w' hw' => hw'.thin (.blk (by simp only [AllLe, and_true]; omega) (.blk (by simp only [AllLe, and_true]; omega) Thin.same))) ?_
     rintro i ⟨hi, hrest⟩
     simp only at hi hrest ⊢
     apply W.sr
     apply obn; rfl; rfl; rfl; apply Bin.lss
     apply OL.nx
     apply W.seq
     (refine W.cnd (fun hlt => ?_) (fun hlt => ?_)) <;> (try (exfalso; first | omega | exact hlt trivial | contradiction))
     ·obtain ⟨a, u, hqa, hab, hu, hcell, hok⟩ := hpza.get (show i < pz.length by omega)
      have hab : a.block < w.heap.size := hab
      have hcell : CellsAt w (a.add (i * 4)) [.int .i64 u.1.kind, .string u.1.name, .int .i64 u.1.var, .slice u.2.1 u.1.args.length u.2.2] := hcell
      have hno2 : ∀ k, k < w.heap.size → NotOwned [blk b0 55 [.slice T.q T.ds.length T.c, .map (some T.b)]] k := fun k hk => NotOwned.blk (by omega) .nil
      have hdr : pz.drop i = u :: pz.drop (i + 1) := by
       have hl : i < pz.length := by omega
       rw [List.drop_eq_getElem_cons hl]
       rw [List.getElem?_eq_getElem hl] at hu
       rw [Option.some.inj hu]
      rw [hdr, List.map_cons, patL] at hrest
      have husz : u.1.sz < n := by
       have h1 := Ty.sz_get (i := i) (t := u.1) (show p.args[i]? = some u.1 by rw [← hpz, List.getElem?_map, hu]; rfl)
       have h2 := sz_args p
       omega
      rw [hqa]
      apply W.sk
      apply W.sb
      apply W.sr
      apply oop; rfl; apply Pev.idx; rfl; exact yes; rfl; exact yes; rfl; rfl; intro hcond; omega
      apply oop; rfl; apply Pev.load_keptA; rfl; exact yes; exact .head _; rfl; intro hcond; assumption; rfl; intro hcond; (rw [add_block]; assumption); intro hcond; exact NotOwned.au
      apply OL.alloc; rfl; rfl; exact CellsL.agg; (intro bk hbk; simp only [AllLe, and_true] at hbk)
      apply OL.storeB; rfl; rfl; exact CellsL.agg; rfl; rfl; rfl; exact Swap.au; exact Put.au
      apply OL.nsr
      apply oop; rfl; apply Pev.load_blkA; rfl; exact yes; exact .tail _ (.head _); rfl; exact Take.au
      apply oop; rfl; apply Pev.load_blkA; rfl; exact yes; exact .head _; rfl; exact Take.au
      have hno3 : ∀ k, k < w.heap.size → NotOwned [blk bk 50 [.int .i64 u.1.kind, .string u.1.name, .int .i64 u.1.var, .slice u.2.1 u.1.args.length u.2.2], blk b0 55 [.slice T.q T.ds.length T.c, .map (some T.b)]] k := fun k hk => NotOwned.blk (by omega) (hno2 k hk)
      (((first | (with_reducible apply OL.op) | (with_reducible apply QL.op)); (exact Guard.au); rfl; rfl); (exact Pev.call (v := .int .i64 (patE T.D u.1)) rfl (by exact Args.au) (fun _ w2 hw2 => (ih u.1 u.2 w2 husz (hT.at hw2 (.head _) hno3) (Rel.ext (R := tyR) hok (hw2.toExt (.head _) hno3))).mono (fun e w3 h => ⟨h.1, hw2.ext h.2⟩))))
      apply oas; rfl; rfl
      apply OL.nsr
      apply omv; rfl; rfl
      apply obn; rfl; rfl; rfl; apply Bin.neq
      apply OL.nx
      by_cases h0 : patE T.D u.1 = 0
      ·rw [if_pos h0] at hrest
       refine W.cond rfl (fun hb => by simp [h0] at hb) (fun _ => ?_)
       apply W.skip
       with_reducible apply At.in_normal
       with_reducible apply At.next
       apply W.reg
       apply obn; rfl; rfl; rfl; apply Bin.add_in; omega
       apply omv; rfl; rfl
       apply OL.nil
       exact At.again (i + 1) ⟨by omega, hrest⟩ (by omega) (by exact Sub.au) (fun w' hw' => hw'.thin (by exact Thin.au))
      ·rw [if_neg h0] at hrest
       rw [hpe, ← hrest]
       refine W.cond rfl (fun _ => ?_) (fun hb => by simp at hb; omega)
       apply W.sr
       apply omv; rfl; rfl
       apply oas; rfl; rfl
       apply OL.nx
       refine W.rt ?_
       ((with_reducible apply At.fin1); rfl; rfl; intro w' hw')
       exact ⟨rfl, by (exact hw'.fr)⟩
     ·rw [List.drop_eq_nil_of_le (by omega)] at hrest
      rw [hpe, ← hrest]
      refine W.xt ?_
      with_reducible apply At.next
      apply W.sr
      apply oas; rfl; rfl
      apply OL.nx
      apply W.ret
      ((with_reducible apply At.fin1); rfl; rfl; intro w' hw')
      exact ⟨rfl, by (exact hw'.fr)⟩
    ·rw [if_neg hl] at hpe
     rw [hpe]
     refine W.cond rfl (fun _ => ?_) (fun hb => by simp at hb; omega)
     apply W.sr
     apply oas; rfl; rfl
     apply OL.nx
     refine W.rt ?_
     ((with_reducible apply At.fin1); rfl; rfl; intro w' hw')
     exact ⟨rfl, by (exact hw'.fr)⟩
  ·rw [if_neg h3] at hpe
   rw [hpe]
   refine W.cond rfl (fun hb => by simp at hb; omega) (fun _ => ?_)
   apply W.sr
   apply oas; rfl; rfl
   apply OL.nx
   refine W.rt ?_
   ((with_reducible apply At.fin1); rfl; rfl; intro w' hw')
   exact ⟨rfl, by (exact hw'.fr)⟩
end Go.Proofs.Ytleggdmhihcafaa.pt

/- The walk of patterns' agree. Conditions: none. -/
namespace Go.Pt
theorem ra_false {F : Nat → Bool} {n k : Nat} (hk : k < n) (h : F k = false) : (List.range n).all F = false := by
 rw [List.all_eq_false]
 exact ⟨k, List.mem_range.2 hk, by simp [h]⟩
theorem ra_true {F : Nat → Bool} {n : Nat} (h : ∀ k, k < n → F k = true) : (List.range n).all F = true := by
 rw [List.all_eq_true]
 exact fun k hk => h k (List.mem_range.1 hk)
end Go.Pt
namespace Go.Proofs.Ytleggdmhihcafaa.pt
open Go.RowKit Go.Eng Go.Pt
set_option maxRecDepth 100000
theorem agree1_calls (p : Ty) (y : PY) (b : Nat) (v1 v2 v3 : Value) (nm : ByteArray) (w : World) (hc : (blk b 50 [v1, .string nm, v2, v3]).holds w) :
  Calls Try.prog 72 [.agg (tyc p y).toArray, .pointer (some ⟨b, 0, none⟩)].toArray w fun e w' => e = .returned (.bool (decide (p.name = nm))) ∧ Ext w w' := by
 refine enter Try.func72 rfl Try.ntmps72 rfl (Cls.start w) ?_
 (simp only [argEnv, Nat.zero_add, Nat.reduceAdd])
 simp only [tyc]
 have hcell : w.cell? ⟨b, 1, none⟩ = some (.string nm) := by rw [blk_cell hc]; rfl
 have hbl := blk_lt hc
 apply W.sr
 apply OL.box; rfl; rfl; exact CellsL.agg; (intro bk hbk; simp only [AllLe, and_true] at hbk)
 apply oas; rfl; rfl
 apply OL.nsr
 apply ofa; rfl; rfl; rfl
 apply old; rfl; rfl; exact .head _; rfl; rfl
 apply ofa; rfl; rfl; rfl
 apply oop; rfl; apply Pev.load_kept; rfl; exact yes; exact .head _; rfl; intro hcond; assumption; intro hcond; assumption; intro hcond; exact NotOwned.au
 apply obn; rfl; rfl; rfl; apply Bin.str_eql
 apply oas; rfl; rfl
 apply OL.nx
 apply W.ret
 ((with_reducible apply At.fin1); rfl; rfl; intro w' hw')
 exact ⟨rfl, by (exact hw'.fr)⟩
theorem DeleteFunc0_calls (q : Option Addr) (cap : Nat) (f : FuncId) (w : World) (hf : callable Try.prog f = true) :
  Calls Try.prog 69 #[.slice q 0 cap, .func (.func f) #[] #[]] w fun e w' => e = .returned (.slice q 0 cap) ∧ Ext w w' := by
 refine enter Try.func69 rfl Try.ntmps69 rfl (Cls.start w) ?_
 (simp only [argEnv, Nat.zero_add, Nat.reduceAdd])
 apply W.sr
 apply oas; rfl; rfl
 apply OL.nsr
 apply omv; rfl; rfl
 apply omv; rfl; rfl
 (((first | (with_reducible apply OL.op) | (with_reducible apply QL.op)); (exact Guard.au); rfl; rfl); (exact Pev.call (v := .int .i64 (-1)) rfl (by exact Args.au) (fun _ w2 hw2 => (IndexFunc_calls q cap [] f [] [] (fun _ => true) w2 (by simp) SlAt.nil hf (fun s hs => by cases hs)).mono (fun e w3 h => ⟨h.1, hw2.ext h.2⟩))))
 apply oas; rfl; rfl
 apply OL.nx
 apply W.seq
 apply W.sr
 apply omv; rfl; rfl
 apply obn; rfl; rfl; rfl; apply Bin.eql
 apply OL.nx
 refine W.cond rfl (fun _ => ?_) (fun hc => by simp at hc)
 apply W.sr
 apply omv; rfl; rfl
 apply oas; rfl; rfl
 apply OL.nx
 refine W.rt ?_
 ((with_reducible apply At.fin1); rfl; rfl; intro w' hw')
 exact ⟨rfl, by (exact hw'.fr)⟩
theorem agree_calls (T : TT) : ∀ (f : Nat) (q : Option Addr) (cap : Nat) (ps : List (Ty × PY)) (w : World), Ty.szs (ps.map Prod.fst) < f → ps.length ≤ 100000 → T.ok w → Arr tyR w (low w) ps q → (∀ p ∈ ps, Wf T.D p.1) →
  Calls Try.prog 36 [T.v, .slice q ps.length cap].toArray w fun e w' => e = .returned (.bool (agrE T.D f (ps.map Prod.fst))) ∧ Ext w w' := by
 intro f
 induction f with
 | zero => intro q cap ps w hn; omega
 | succ f ih =>
  intro q cap ps w hn hlen hT h hwf
  refine enter Try.func36 rfl Try.ntmps36 rfl (Cls.start w) ?_
  unfold TT.v
  (simp only [argEnv, Nat.zero_add, Nat.reduceAdd])
  apply W.sr
  apply OL.box; rfl; rfl; exact CellsL.agg; (intro bk hbk; simp only [AllLe, and_true] at hbk)
  apply oas; rfl; rfl
  apply OL.nsr
  apply omv; rfl; rfl
  revert bk
  intro b0 hb0
  by_cases hps : ps = []
  ·subst hps
   have hres : agrE T.D (f + 1) (([] : List (Ty × PY)).map Prod.fst) = true := by rw [agrE]; rfl
   rw [hres]
   refine OL.callE (α := Option Addr × Nat) (fun z => .slice z.1 0 z.2) (fun _ => True) (fun _ => Cls [blk b0 55 [.slice T.q T.ds.length T.c, .map (some T.b)]] [w]) rfl rfl (by exact Args.au) (fun w2 hw2 => (Clone_calls q cap [] w2 (by simp) SlAt.nil).mono (fun e w3 ⟨q', c', h1, h2, _⟩ => ⟨(q', c'), h1, trivial, hw2.ext h2⟩)) ?_
   rintro ⟨q1, c1⟩ _
   skip
   (((first | (with_reducible apply OL.op) | (with_reducible apply QL.op)); (exact Guard.au); rfl; rfl); (exact Pev.call (v := .slice q1 0 c1) rfl (by exact Args.au) (fun _ w2 hw2 => (DeleteFunc0_calls q1 c1 44 w2 rfl).mono (fun e w3 h => ⟨h.1, hw2.ext h.2⟩))))
   apply oas; rfl; rfl
   apply OL.nx
   apply W.seq
   apply W.sr
   apply omv; rfl; rfl
   apply oop; rfl; apply Pev.len_slice; rfl; exact yes; rfl
   apply omv; rfl; rfl
   apply OL.nx
   apply W.block
   refine W.loop (G := Unit) (fun _ => True) (fun _ => 0)
    (fun _ => [(17, true, .int .i64 0), (18, true, .int .i64 0), (1, true, .slice q1 0 c1)])
    (fun _ => Cls [blk b0 55 [.slice T.q T.ds.length T.c, .map (some T.b)]] [w]) () trivial (by exact Sub.au) (fun w' hw' => hw') ?_
   intro _ _
   apply W.sr
   apply obn; rfl; rfl; rfl; apply Bin.lss
   apply OL.nx
   apply W.seq
   refine W.cond rfl (fun hb => by cases hb) (fun _ => ?_)
   refine W.xt ?_
   with_reducible apply At.next
   apply W.seq
   apply W.sr
   apply omv; rfl; rfl
   apply oop; rfl; apply Pev.len_slice; rfl; exact yes; rfl
   apply omv; rfl; rfl
   apply OL.nx
   apply W.block
   refine W.loop (G := Unit) (fun _ => True) (fun _ => 0)
    (fun _ => [(33, true, .int .i64 0), (34, true, .int .i64 0)])
    (fun _ => Cls [blk b0 55 [.slice T.q T.ds.length T.c, .map (some T.b)]] [w]) () trivial (by exact Sub.au) (fun w' hw' => hw') ?_
   intro _ _
   apply W.sr
   apply obn; rfl; rfl; rfl; apply Bin.lss
   apply OL.nx
   apply W.seq
   refine W.cond rfl (fun hb => by cases hb) (fun _ => ?_)
   refine W.xt ?_
   with_reducible apply At.next
   apply W.sr
   apply oas; rfl; rfl
   apply OL.nx
   apply W.ret
   ((with_reducible apply At.fin1); rfl; rfl; intro w' hw')
   exact ⟨rfl, by (exact hw'.fr)⟩
  have hps0 : 0 < ps.length := List.length_pos_iff.2 hps
  have hH0 : ∀ k, k < w.heap.size → NotOwned [blk b0 55 [.slice T.q T.ds.length T.c, .map (some T.b)]] k := fun k hk => NotOwned.blk (by omega) .nil
  refine OL.callE (α := Nat × Nat × List Value) (fun z => .slice (some ⟨z.1, 0, none⟩) ps.length z.2.1) (fun z => w.heap.size ≤ z.1 ∧ (cat tyR.c ps ++ z.2.2).length = z.2.1 * 4) (fun z => Cls [blk z.1 50 (cat tyR.c ps ++ z.2.2), blk b0 55 [.slice T.q T.ds.length T.c, .map (some T.b)]] [w]) rfl rfl (by exact Args.au) (fun w2 hw2 => ?_) ?_
  ·refine (Clone_calls q cap ps w2 hlen (h.at hw2 (.head _) hH0).slAt).mono (fun e w3 ⟨q', c', he, hx, hg⟩ => ?_)
   obtain ⟨g, rest, rfl, hgb, hh, hcl⟩ := hg hps0
   have hws := (hw2.kp w (.head _)).size
   refine ⟨(g, c', rest), he, ⟨by simp only; omega, hcl⟩, hw2.add hx _ hh (fun k hk => ?_)⟩
   have hk' : k = g := hk
   subst hk'
   exact ⟨hgb, blk_lt hh⟩
  rintro ⟨g, c1, r1⟩ ⟨hg, hr1⟩
  simp only at hg hr1 ⊢
  skip
  obtain ⟨L, hL⟩ : ∃ L : List (Ty × PY), L = ps.filter (fun x => !free x.1) := ⟨_, rfl⟩
  have hLm : L.map Prod.fst = nf (ps.map Prod.fst) := by
   rw [hL, nf, List.filter_map]
   rfl
  have hLl : L.length ≤ ps.length := by rw [hL]; exact List.length_filter_le _ _
  have hLs : ∀ z ∈ L, z ∈ ps ∧ free z.1 = false := fun z hz => by
   rw [hL, List.mem_filter] at hz
   exact ⟨hz.1, by simpa using hz.2⟩
  refine OL.callE (α := World) (fun _ => .slice (some ⟨g, 0, none⟩) L.length c1) (fun z => Ext w z ∧ Arr tyR z (low z) L (some ⟨g, 0, none⟩) ∧ L.length ≤ c1 ∧ CellsAt z ⟨b0, 0, none⟩ [.slice T.q T.ds.length T.c, .map (some T.b)] ∧ b0 < z.heap.size) (fun z => Cls [] [z, w]) rfl rfl (by exact Args.au) (fun w2 hw2 => ?_) ?_
  ·refine (DeleteFunc_calls g c1 ps r1 44 [] [] free w2 hlen (hw2.item (.head _)) hr1 rfl (fun s hs w3 => free_calls s.1 s.2 w3)).mono (fun e w3 ⟨he, r2, hh, hl2, hk⟩ => ?_)
   rw [← hL] at he hh hl2
   have h3 := hw2.turn_blk .z hk hh
   have hb := h3.item (i := blk b0 55 [.slice T.q T.ds.length T.c, .map (some T.b)]) (.tail _ (.head _))
   have h4 := h3.thin (H' := []) (.blk (by simp only [AllLe, and_true]; omega) (.blk (by simp only [AllLe, and_true]; omega) Thin.same))
   have hx := h4.toExt (.head _) (fun k hk => .nil)
   refine ⟨w3, he, ⟨hx, Arr.of_sl (SlAt.of_blk (o := 0) hh (fun j v hj => by rw [Nat.zero_add, List.getElem?_append_left (List.getElem?_eq_some_iff.1 hj).1]; exact hj)) (fun p hp => Rel.ext (R := tyR) (h.el p (hLs p hp).1) hx), ?_, fun j v hj => by rw [add_mid, blk_cell hb, Nat.zero_add]; exact hj, blk_lt hb⟩, h4.note⟩
   rw [List.length_append, cat_length pat_len] at hl2
   omega
  rintro w1 ⟨hx1, hA, hLc, hcT, hbT⟩
  have hT1 := hT.ext hx1
  have hw1s := hx1.size
  apply oas; rfl; rfl
  apply OL.nx
  apply W.seq
  apply W.sr
  apply omv; rfl; rfl
  apply oop; rfl; apply Pev.len_slice; rfl; exact yes; rfl
  apply omv; rfl; rfl
  apply OL.nx
  apply W.block
  obtain ⟨q1, hq1⟩ : ∃ q1 : Option Addr, (some ⟨g, 0, none⟩ : Option Addr) = q1 := ⟨_, rfl⟩
  rw [hq1] at hA ⊢
  have hag : agrE T.D (f + 1) (ps.map Prod.fst) = (oneKind T.D (L.map Prod.fst) && (List.range L.length).all fun k => match (L.map Prod.fst)[k]? with
   | none => true
   | some p => ((L.map Prod.fst).take k).any (fun q => decide (q.name = p.name)) || (decide (p.kind ≠ 3) || (List.range p.args.length).all fun n => agrE T.D f (under (L.map Prod.fst) p.name n))) := by
   rw [agrE, ← hLm, List.length_map] <;> rfl
  have hLw : ∀ z ∈ L, Wf T.D z.1 := fun z hz => hwf z (hLs z hz).1
  have nilN : ∀ k, k < w1.heap.size → NotOwned [] k := fun k hk => .nil
  refine W.loop (G := Nat) (fun i => i ≤ L.length ∧ ∀ j z z0, j < i → L[j]? = some z → L[0]? = some z0 → kindE T.D z.1 = kindE T.D z0.1) (fun i => L.length - i)
   (fun i => [(1, true, .slice q1 L.length c1), (2, true, .pointer (some ⟨b0, 0, none⟩)), (16, true, .slice q1 L.length c1), (17, true, .int .i64 (L.length : Int)), (18, true, .int .i64 (i : Int))])
   (fun i => Cls [] [w1, w]) 0 ⟨Nat.zero_le _, fun j z z0 hj => by omega⟩ (by exact Sub.au) (fun w' hw' => hw') ?_
  rintro i ⟨hi, hall⟩
  simp only at hi hall ⊢
  apply W.sr
  apply obn; rfl; rfl; rfl; apply Bin.lss
  apply OL.nx
  apply W.seq
  (refine W.cnd (fun hlt => ?_) (fun hlt => ?_)) <;> (try (exfalso; first | omega | exact hlt trivial | contradiction))
  ·obtain ⟨a, u, hqa, hab, hu, hcell, hok⟩ := hA.get (show i < L.length by omega)
   obtain ⟨a0, u0, hqa0, hab0, hu0, hcell0, hok0⟩ := hA.get (show 0 < L.length by omega)
   have hab : a.block < w1.heap.size := hab
   rw [hqa] at hqa0
   obtain rfl := Option.some.inj hqa0
   have hcell : CellsAt w1 (a.add (i * 4)) [.int .i64 u.1.kind, .string u.1.name, .int .i64 u.1.var, .slice u.2.1 u.1.args.length u.2.2] := hcell
   have hcell0 : CellsAt w1 (a.add (0 * 4)) [.int .i64 u0.1.kind, .string u0.1.name, .int .i64 u0.1.var, .slice u0.2.1 u0.1.args.length u0.2.2] := hcell0
   rw [hqa]
   apply W.sk
   apply W.sb
   apply W.sr
   apply oop; rfl; apply Pev.idx; rfl; exact yes; rfl; exact yes; rfl; rfl; intro hcond; omega
   apply oop; rfl; apply Pev.load_keptA; rfl; exact yes; exact .head _; rfl; intro hcond; assumption; rfl; intro hcond; (rw [add_block]; assumption); intro hcond; exact NotOwned.au
   apply OL.alloc; rfl; rfl; exact CellsL.agg; (intro bk hbk; simp only [AllLe, and_true] at hbk)
   apply OL.storeB; rfl; rfl; exact CellsL.agg; rfl; rfl; rfl; exact Swap.au; exact Put.au
   apply OL.nx
   apply W.seq
   apply W.regd0; decide +kernel; kernel_rfl; decide +kernel; exact fun w hw => hw.drew
   apply qop; rfl; apply Pev.load_keptA; rfl; exact yes; exact .head _; rfl; intro hcond; assumption; rfl; intro hcond; assumption; intro hcond; exact NotOwned.au
   apply qop; rfl; apply Pev.load_blkA; rfl; exact yes; exact .head _; rfl; exact Take.au
   have hH2 : ∀ k, k < w1.heap.size → NotOwned [blk bk 50 [.int .i64 u.1.kind, .string u.1.name, .int .i64 u.1.var, .slice u.2.1 u.1.args.length u.2.2]] k := fun k hk => NotOwned.blk (by omega) .nil
   (((first | (with_reducible apply OL.op) | (with_reducible apply QL.op)); (exact Guard.au); rfl; rfl); (exact Pev.call (v := .int .i64 (kindE T.D u.1)) rfl (by exact Args.au) (fun _ w2 hw2 => (kind_calls T u.1 u.2 w2 (hT1.at hw2 (.head _) hH2)).mono (fun e w3 h => ⟨h.1, hw2.ext h.2⟩))))
   apply qop; rfl; apply Pev.load_keptA; rfl; exact yes; exact .head _; rfl; intro hcond; assumption; rfl; intro hcond; assumption; intro hcond; exact NotOwned.au
   apply qmv; rfl; rfl
   apply qop; rfl; apply Pev.idx; rfl; exact yes; rfl; exact yes; rfl; rfl; intro hcond; (simp only [Bool.and_eq_true, Bool.or_eq_true, Bool.not_eq_true', decide_eq_true_eq, decide_eq_false_iff_not] at *; omega)
   apply qop; rfl; apply Pev.load_keptA; rfl; exact yes; exact .head _; rfl; intro hcond; assumption; rfl; intro hcond; assumption; intro hcond; exact NotOwned.au
   (((first | (with_reducible apply OL.op) | (with_reducible apply QL.op)); (exact Guard.au); rfl; rfl); (exact Pev.call (v := .int .i64 (kindE T.D u0.1)) rfl (by exact Args.au) (fun _ w2 hw2 => (kind_calls T u0.1 u0.2 w2 (hT1.at hw2 (.head _) hH2)).mono (fun e w3 h => ⟨h.1, hw2.ext h.2⟩))))
   apply qbn; rfl; rfl; rfl; apply Bin.neq
   apply QL.nil
   with_reducible apply At.next
   refine W.cond rfl (fun hb => ?_) (fun hb => ?_)
   ·have hb : ¬ kindE T.D u.1 = kindE T.D u0.1 := by simpa using hb
    have hone : oneKind T.D (L.map Prod.fst) = false := by
     cases hL0 : L with
     | nil => rw [hL0] at hu0; cases hu0
     | cons x r =>
      rw [hL0] at hu0 hu
      simp only [List.getElem?_cons_zero, Option.some.injEq] at hu0
      subst hu0
      simp only [List.map_cons, oneKind]
      rw [List.all_eq_false]
      exact ⟨u.1, by rw [← List.map_cons]; exact List.mem_map_of_mem (List.mem_of_getElem? hu), by simpa using hb⟩
    rw [hag, hone, Bool.false_and]
    apply W.sr
    apply oas; rfl; rfl
    apply OL.nx
    refine W.rt ?_
    ((with_reducible apply At.fin1); rfl; rfl; intro w' hw')
    exact ⟨rfl, hw'.toExt (s := w) (.tail _ (.head _)) (fun k hk => hH2 k (by omega))⟩
   ·have hb : kindE T.D u.1 = kindE T.D u0.1 := by simpa using hb
    apply W.skip
    with_reducible apply At.in_normal
    with_reducible apply At.next
    apply W.reg
    apply obn; rfl; rfl; rfl; apply Bin.add_in; omega
    apply omv; rfl; rfl
    apply OL.nil
    refine At.again (i + 1) ⟨by omega, fun j z z0 hj hz hz0 => ?_⟩ (by omega) (by exact Sub.au) (fun w' hw' => hw'.thin (by exact Thin.au))
    by_cases hji : j < i
    ·exact hall j z z0 hji hz hz0
    ·obtain rfl : j = i := by omega
     rw [hu] at hz
     rw [hu0] at hz0
     rw [← Option.some.inj hz, ← Option.some.inj hz0]
     exact hb
  obtain rfl : i = L.length := by omega
  have hone : oneKind T.D (L.map Prod.fst) = true := by
   cases hL0 : L with
   | nil => rfl
   | cons x r =>
    simp only [List.map_cons, oneKind]
    rw [List.all_eq_true]
    intro q hq
    rw [← List.map_cons] at hq
    obtain ⟨z, hz, rfl⟩ := List.mem_map.1 hq
    obtain ⟨j, hj⟩ := List.getElem?_of_mem hz
    rw [← hL0] at hj
    simp only [decide_eq_true_eq]
    exact hall j z x (List.getElem?_eq_some_iff.1 hj).1 hj (by rw [hL0]; rfl)
  have kin_eq : ∀ z ∈ L, ∀ z2 ∈ L, kindE T.D z.1 = kindE T.D z2.1 := fun z hz z2 hz2 => by
   obtain ⟨j, hj⟩ := List.getElem?_of_mem hz
   obtain ⟨j2, hj2⟩ := List.getElem?_of_mem hz2
   obtain ⟨z0, hz0⟩ : ∃ z0, L[0]? = some z0 := ⟨_, List.getElem?_eq_getElem (by have := (List.getElem?_eq_some_iff.1 hj).1; omega)⟩
   rw [hall j z z0 (List.getElem?_eq_some_iff.1 hj).1 hj hz0, hall j2 z2 z0 (List.getElem?_eq_some_iff.1 hj2).1 hj2 hz0]
  rw [hone, Bool.true_and] at hag
  obtain ⟨F, hF⟩ : ∃ F : Nat → Bool, F = fun k => (match (L.map Prod.fst)[k]? with
   | none => true
   | some p => ((L.map Prod.fst).take k).any (fun q => decide (q.name = p.name)) || (decide (p.kind ≠ 3) || (List.range p.args.length).all fun n => agrE T.D f (under (L.map Prod.fst) p.name n))) := ⟨_, rfl⟩
  rw [← hF] at hag
  have hFu : ∀ k (u : Ty × PY), L[k]? = some u → F k = (((L.take k).map Prod.fst).any (fun q => decide (q.name = u.1.name)) || (decide (u.1.kind ≠ 3) || (List.range u.1.args.length).all fun n => agrE T.D f (under (L.map Prod.fst) u.1.name n))) := fun k u hu => by
   rw [hF]
   simp only [List.getElem?_map, hu, Option.map_some, List.map_take]
  refine W.xt ?_
  with_reducible apply At.next
  apply W.seq
  apply W.sr
  apply omv; rfl; rfl
  apply oop; rfl; apply Pev.len_slice; rfl; exact yes; rfl
  apply omv; rfl; rfl
  apply OL.nx
  apply W.block
  refine W.loop (G := Nat) (fun i => i ≤ L.length ∧ ∀ j, j < i → F j = true) (fun i => L.length - i)
   (fun i => [(1, true, .slice q1 L.length c1), (2, true, .pointer (some ⟨b0, 0, none⟩)), (32, true, .slice q1 L.length c1), (33, true, .int .i64 (L.length : Int)), (34, true, .int .i64 (i : Int))])
   (fun i => Cls [] [w1, w]) 0 ⟨Nat.zero_le _, fun j hj => by omega⟩ (by exact Sub.au) (fun w' hw' => hw') ?_
  rintro i ⟨hi, hdone⟩
  simp only at hi hdone ⊢
  apply W.sr
  apply obn; rfl; rfl; rfl; apply Bin.lss
  apply OL.nx
  apply W.seq
  (refine W.cnd (fun hlt => ?_) (fun hlt => ?_)) <;> (try (exfalso; first | omega | exact hlt trivial | contradiction))
  ·obtain ⟨a, u, hqa, hab, hu, hcell, hok⟩ := hA.get (show i < L.length by omega)
   have hab : a.block < w1.heap.size := hab
   have hcell : CellsAt w1 (a.add (i * 4)) [.int .i64 u.1.kind, .string u.1.name, .int .i64 u.1.var, .slice u.2.1 u.1.args.length u.2.2] := hcell
   rw [hqa]
   apply W.sk
   apply W.sb
   apply W.sr
   apply omv; rfl; rfl
   apply oop; rfl; apply Pev.idx; rfl; exact yes; rfl; exact yes; rfl; rfl; intro hcond; omega
   apply oop; rfl; apply Pev.load_keptA; rfl; exact yes; exact .head _; rfl; intro hcond; assumption; rfl; intro hcond; (rw [add_block]; assumption); intro hcond; exact NotOwned.au
   apply OL.alloc; rfl; rfl; exact CellsL.agg; (intro bk hbk; simp only [AllLe, and_true] at hbk)
   apply oas; rfl; rfl
   apply OL.storeB; rfl; rfl; exact CellsL.agg; rfl; rfl; rfl; exact Swap.au; exact Put.au
   apply OL.nx
   apply W.seq
   apply W.sr
   apply omv; rfl; rfl
   apply omv; rfl; rfl
   apply oop; rfl; apply Pev.slice_hi; rfl; exact yes; rfl; exact yes; rfl; rfl; intro hcond; omega
   apply oop; rfl; apply Pev.makeFunc; exact Args.au; exact Args.au
   have hti : (L.take i).length = i := by rw [List.length_take]; omega
   have hH2 : ∀ k, k < w1.heap.size → NotOwned [blk bk 50 [.int .i64 u.1.kind, .string u.1.name, .int .i64 u.1.var, .slice u.2.1 u.1.args.length u.2.2]] k := fun k hk => NotOwned.blk (by omega) .nil
   (((first | (with_reducible apply OL.op) | (with_reducible apply QL.op)); (exact Guard.au); rfl; rfl); (refine Pev.call (v := .bool (((L.take i).map Prod.fst).any fun q => decide (q.name = u.1.name))) (vs := [.slice (some a) i c1, .func (.func 72) ([] : List Value).toArray [Value.pointer (some ⟨bk, 0, none⟩)].toArray]) rfl (by exact Args.au) (fun _ w2 hw2 => ?_)))
   ·have hb : (blk bk 50 [.int .i64 u.1.kind, .string u.1.name, .int .i64 u.1.var, .slice u.2.1 u.1.args.length u.2.2]).holds w2 := hw2.item (.head _)
    have hlt := hw2.lt _ (.head _) bk rfl
    have hc := ContainsFunc_calls (some a) c1 (L.take i) 72 [] [.pointer (some ⟨bk, 0, none⟩)] (fun p => decide (p.name = u.1.name)) w2 (by omega) ((by rw [← hqa]; exact hA.take i : Arr tyR w1 (low w1) (L.take i) (some a)).at hw2 (.head _) hH2) rfl (fun s hs w3 h3 => agree1_calls s.1 s.2 bk _ _ _ u.1.name w3 ((blk bk 50 _).stab w2 w3 (fun k hk => h3.block k (by rw [show k = bk from hk]; exact hlt) id) hb))
    rw [hti] at hc
    exact hc.mono (fun e w3 h => ⟨h.1, hw2.ext h.2⟩)
   have hFi := hFu i u hu
   have hagain : F i = true → ∀ j, j < i + 1 → F j = true := fun h j hj => by
    by_cases hji : j < i
    ·exact hdone j hji
    ·rw [show j = i by omega]; exact h
   apply OL.nx
   refine W.cond rfl (fun hb => ?_) (fun hb => ?_)
   ·have hFt : F i = true := by rw [hFi, hb, Bool.true_or]
    refine W.xt ?_
    with_reducible apply At.next
    apply W.reg
    apply obn; rfl; rfl; rfl; apply Bin.add_in; omega
    apply omv; rfl; rfl
    apply OL.nil
    exact At.again (i + 1) ⟨by omega, hagain hFt⟩ (by omega) (by exact Sub.au) (fun w' hw' => hw'.thin (by exact Thin.au))
   have hb : (((L.take i).map Prod.fst).any fun q => decide (q.name = u.1.name)) = false := hb
   rw [hb, Bool.false_or] at hFi
   apply W.sk
   apply W.seq
   apply W.sr
   apply ofa; rfl; rfl; rfl
   apply old; rfl; rfl; exact .head _; rfl; rfl
   apply obn; rfl; rfl; rfl; apply Bin.neq
   apply OL.nx
   refine W.cond rfl (fun hb => ?_) (fun hb => ?_)
   ·have hk3 : u.1.kind ≠ 3 := by simpa using hb
    have hFt : F i = true := by rw [hFi, decide_eq_true hk3, Bool.true_or]
    refine W.xt ?_
    with_reducible apply At.next
    apply W.reg
    apply obn; rfl; rfl; rfl; apply Bin.add_in; omega
    apply omv; rfl; rfl
    apply OL.nil
    exact At.again (i + 1) ⟨by omega, hagain hFt⟩ (by omega) (by exact Sub.au) (fun w' hw' => hw'.thin (by exact Thin.au))
   have hk3 : u.1.kind = 3 := by simpa using hb
   rw [show decide (u.1.kind ≠ 3) = false by simp [hk3], Bool.false_or] at hFi
   apply W.sk
   apply W.sr
   apply ofa; rfl; rfl; rfl
   apply old; rfl; rfl; exact .head _; rfl; rfl
   apply oop; rfl; apply Pev.len_slice; rfl; exact yes; rfl
   apply omv; rfl; rfl
   apply OL.nx
   apply W.block
   revert bk
   intro b8 hb8 hH2
   have huw := hLw u (List.mem_of_getElem? hu)
   obtain ⟨d, c, hcon, hcm, _⟩ := huw.cons hk3
   have hargs : ∀ z ∈ L, z.1.name = u.1.name → z.1.args.length = u.1.args.length := fun z hz hn => by
    have hkz : kindE T.D z.1 = kindE T.D u.1 := kin_eq z hz u (List.mem_of_getElem? hu)
    have hzw := hLw z hz
    have hz3 : z.1.kind = 3 := by
     rcases hzw.kinds (hLs z hz).2 with hz2 | hz3
     ·unfold kindE at hkz
      rw [if_pos hz2, if_neg (by omega), if_pos hk3, hcon] at hkz
      simp only at hkz
      omega
     ·exact hz3
    obtain ⟨d', c', e1, e2, _⟩ := hzw.cons hz3
    rw [hn, hcon] at e1
    cases e1
    omega
   obtain ⟨_, _, _, hual, _⟩ := pat_kids hok
   refine W.loop (G := Nat) (fun n => n ≤ u.1.args.length ∧ ∀ j, j < n → agrE T.D f (under (L.map Prod.fst) u.1.name j) = true) (fun n => u.1.args.length - n)
    (fun n => [(1, true, .slice (some a) L.length c1), (2, true, .pointer (some ⟨b0, 0, none⟩)), (8, true, .pointer (some ⟨b8, 0, none⟩)), (32, true, .slice (some a) L.length c1), (33, true, .int .i64 (L.length : Int)), (34, true, .int .i64 (i : Int)), (49, true, .int .i64 (u.1.args.length : Int)), (50, true, .int .i64 (n : Int))])
    (fun n => Cls [blk b8 50 [.int .i64 u.1.kind, .string u.1.name, .int .i64 u.1.var, .slice u.2.1 u.1.args.length u.2.2]] [w1, w]) 0 ⟨Nat.zero_le _, fun j hj => by omega⟩ (by exact Sub.au) (fun w' hw' => hw') ?_
   rintro n ⟨hn1, hn2⟩
   simp only at hn1 hn2 ⊢
   apply W.sr
   apply obn; rfl; rfl; rfl; apply Bin.lss
   apply OL.nx
   apply W.seq
   (refine W.cnd (fun hltn => ?_) (fun hltn => ?_)) <;> (try (exfalso; first | omega | exact hltn trivial | contradiction))
   ·apply W.sk
    apply W.sb
    apply W.sr
    apply omv; rfl; rfl
    apply oas; rfl; rfl
    apply OL.nsr
    apply oas; rfl; rfl
    apply OL.nx
    apply W.seq
    apply W.sr
    apply omv; rfl; rfl
    apply oop; rfl; apply Pev.len_slice; rfl; exact yes; rfl
    apply omv; rfl; rfl
    apply OL.nx
    apply W.block
    refine W.loop (G := Nat × GT) (fun g => g.1 ≤ L.length ∧ g.2.ps.map Prod.fst = under ((L.take g.1).map Prod.fst) u.1.name n ∧ g.2.ps.length ≤ g.1 ∧ ∀ p ∈ g.2.ps, TyO w1 (low w1) p.1 p.2) (fun g => L.length - g.1)
     (fun g => [(1, true, .slice (some a) L.length c1), (2, true, .pointer (some ⟨b0, 0, none⟩)), (8, true, .pointer (some ⟨b8, 0, none⟩)), (32, true, .slice (some a) L.length c1), (33, true, .int .i64 (L.length : Int)), (34, true, .int .i64 (i : Int)), (49, true, .int .i64 (u.1.args.length : Int)), (50, true, .int .i64 (n : Int)), (9, true, .int .i64 (n : Int)), (10, true, .slice g.2.q g.2.ps.length g.2.c), (53, true, .slice (some a) L.length c1), (54, true, .int .i64 (L.length : Int)), (55, true, .int .i64 (g.1 : Int))])
     (fun g => Cls [row w1.heap.size g.2.O g.2.q g.2.ps.length g.2.c 50 4 (cat tyR.c g.2.ps), blk b8 50 [.int .i64 u.1.kind, .string u.1.name, .int .i64 u.1.var, .slice u.2.1 u.1.args.length u.2.2]] [w1, w]) (0, ⟨fun _ => False, none, 0, []⟩) ⟨Nat.zero_le _, rfl, Nat.le_refl _, fun p hp => by cases hp⟩ (by exact Sub.au) (fun w' hw' => hw'.row_nil w1.heap.size 50 4) ?_
    rintro ⟨j, O, q2, c2, bs⟩ ⟨hj, hbs, hbl, hbok⟩
    simp only at hj hbs hbl hbok ⊢
    apply W.sr
    apply obn; rfl; rfl; rfl; apply Bin.lss
    apply OL.nx
    apply W.seq
    (refine W.cnd (fun hltj => ?_) (fun hltj => ?_)) <;> (try (exfalso; first | omega | exact hltj trivial | contradiction))
    ·obtain ⟨aj, v, hqj, habj, hv, hcellj, hokj⟩ := hA.get (show j < L.length by omega)
     rw [hqa] at hqj
     obtain rfl := Option.some.inj hqj
     have hcellj : CellsAt w1 (a.add (j * 4)) [.int .i64 v.1.kind, .string v.1.name, .int .i64 v.1.var, .slice v.2.1 v.1.args.length v.2.2] := hcellj
     have hunder : under ((L.take (j + 1)).map Prod.fst) u.1.name n = under ((L.take j).map Prod.fst) u.1.name n ++ (if v.1.name = u.1.name then v.1.args[n]? else none).toList := by
      rw [List.take_add_one, hv, Option.toList_some, List.map_append]
      unfold under
      rw [List.filterMap_append]
      congr 1
      simp only [List.map_cons, List.map_nil, List.filterMap_cons, List.filterMap_nil, (hLs v (List.mem_of_getElem? hv)).2, true_and]
      split <;> rename_i hx <;> rw [hx] <;> rfl
     apply W.sk
     apply W.sb
     apply W.sr
     apply oop; rfl; apply Pev.idx; rfl; exact yes; rfl; exact yes; rfl; rfl; intro hcond; omega
     apply oop; rfl; apply Pev.load_keptA; rfl; exact yes; exact .head _; rfl; intro hcond; assumption; rfl; intro hcond; (rw [add_block]; assumption); intro hcond; exact NotOwned.au
     apply OL.alloc; rfl; rfl; exact CellsL.agg; (intro bk hbk; simp only [AllLe, and_true] at hbk)
     apply OL.storeB; rfl; rfl; exact CellsL.agg; rfl; rfl; rfl; exact Swap.au; exact Put.au
     apply OL.nsr
     apply ofa; rfl; rfl; rfl
     apply old; rfl; rfl; exact .head _; rfl; rfl
     apply ofa; rfl; rfl; rfl
     apply old; rfl; rfl; exact .tail _ (.tail _ (.head _)); rfl; rfl
     apply obn; rfl; rfl; rfl; apply Bin.str_eql
     apply OL.nx
     refine W.cond rfl (fun hb => ?_) (fun hb => ?_)
     ·have hb : v.1.name = u.1.name := of_decide_eq_true hb
      have hvl := hargs v (List.mem_of_getElem? hv) hb
      obtain ⟨pz, hpz, hpza, hpzl, _⟩ := pat_kids hokj
      have hpzl2 : pz.length = v.1.args.length := by rw [← hpz, List.length_map]
      obtain ⟨az, z, hqz, habz, hz, hcellz, hokz⟩ := hpza.get (show n < pz.length by omega)
      have habz : az.block < w1.heap.size := habz
      have hcellz : CellsAt w1 (az.add (n * 4)) [.int .i64 z.1.kind, .string z.1.name, .int .i64 z.1.var, .slice z.2.1 z.1.args.length z.2.2] := hcellz
      rw [if_pos hb, show v.1.args[n]? = some z.1 by rw [← hpz, List.getElem?_map, hz]; rfl, Option.toList_some, ← hbs] at hunder
      have e1 : bs.length + 1 = (bs ++ [z]).length := by simp
      have e2 : cat tyR.c bs ++ [Value.int .i64 z.1.kind, .string z.1.name, .int .i64 z.1.var, .slice z.2.1 z.1.args.length z.2.2] = cat tyR.c (bs ++ [z]) := by rw [cat_append]; rfl
      rw [hqz]
      apply W.reg
      apply omv; rfl; rfl
      apply ofa; rfl; rfl; rfl
      apply old; rfl; rfl; exact .head _; rfl; rfl
      apply omv; rfl; rfl
      apply oop; rfl; apply Pev.idx; rfl; exact yes; rfl; exact yes; rfl; rfl; intro hcond; omega
      apply oop; rfl; apply Pev.load_keptA; rfl; exact yes; exact .head _; rfl; intro hcond; assumption; rfl; intro hcond; (rw [add_block]; assumption); intro hcond; exact NotOwned.au
      apply OL.buildSlice; rfl; rfl; rfl; exact Elems.au; rfl; rfl; (intro bk hbk; simp only [AllLe, and_true] at hbk)
      apply OL.append; rfl; rfl; rfl; rfl; exact Hole.au; exact .head _; exact Take.au; rfl; rfl; exact ⟨_, .head _, Nat.le_refl _⟩; omega; intro O1 g1 cap1
      apply oas; rfl; rfl
      apply OL.nil
      with_reducible apply At.in_normal
      with_reducible apply At.next
      apply W.reg
      apply obn; rfl; rfl; rfl; apply Bin.add_in; omega
      apply omv; rfl; rfl
      apply OL.nil
      rw [e1, e2]
      exact At.again (j + 1, ⟨O1, some ⟨g1, 0, none⟩, cap1, bs ++ [z]⟩) ⟨by simp only; omega, by simp only [hunder]; simp, by simp only [← e1]; omega, fun p hp => (List.mem_append.1 hp).elim (hbok p) (fun hp => by rw [List.mem_singleton] at hp; rw [hp]; exact hokz)⟩ (by simp only; omega) (by exact Sub.au) (fun w' hw' => hw'.thin (by exact Thin.au))
     ·have hb : ¬ v.1.name = u.1.name := of_decide_eq_false hb
      rw [if_neg hb, Option.toList_none, List.append_nil] at hunder
      apply W.skip
      with_reducible apply At.in_normal
      with_reducible apply At.next
      apply W.reg
      apply obn; rfl; rfl; rfl; apply Bin.add_in; omega
      apply omv; rfl; rfl
      apply OL.nil
      exact At.again (j + 1, ⟨O, q2, c2, bs⟩) ⟨by simp only; omega, by simp only [hunder, hbs], by simp only; omega, hbok⟩ (by simp only; omega) (by exact Sub.au) (fun w' hw' => hw'.thin (by exact Thin.au))
    ·obtain rfl : j = L.length := by omega
     rw [List.take_length] at hbs
     have hsz : Ty.szs (bs.map Prod.fst) < f := by
      have g1 : u.1 ∈ L.map Prod.fst := List.mem_map_of_mem (List.mem_of_getElem? hu)
      have g2 := under_lt g1 (hLs u (List.mem_of_getElem? hu)).2 (n := n) (by omega)
      have g3 := nf_sz (ps.map Prod.fst)
      rw [hbs]
      rw [← hLm] at g3
      omega
     have hwb : ∀ p ∈ bs, Wf T.D p.1 := fun p hp => by
      have g1 : p.1 ∈ under (L.map Prod.fst) u.1.name n := by rw [← hbs]; exact List.mem_map_of_mem hp
      obtain ⟨z, k1, k2, k3, k4⟩ := under_mem.1 g1
      obtain ⟨zz, k5, rfl⟩ := List.mem_map.1 k1
      have hzw := hLw zz k5
      have hz3 : zz.1.kind = 3 := by
       rcases hzw.kinds k2 with hz2 | hz3
       ·cases hzw with
        | fr h => rw [k2] at h; cases h
        | int _ _ => 
         exfalso
         have := hargs zz k5 k3
         have g4 := kin_eq zz k5 u (List.mem_of_getElem? hu)
         unfold kindE at g4
         rw [if_pos hz2, if_neg (by omega), if_pos hk3, hcon] at g4
         simp only at g4
         omega
        | con h _ _ _ => omega
       ·exact hz3
      obtain ⟨_, _, _, _, k7⟩ := hzw.cons hz3
      exact k7 p.1 (List.mem_of_getElem? k4)
     have hH3 : ∀ k, k < w1.heap.size → NotOwned [row w1.heap.size O q2 bs.length c2 50 4 (cat tyR.c bs), blk b8 50 [.int .i64 u.1.kind, .string u.1.name, .int .i64 u.1.var, .slice u.2.1 u.1.args.length u.2.2]] k := fun k hk => NotOwned.row (by omega) (hH2 k hk)
     refine W.xt ?_
     with_reducible apply At.next
     apply W.sr
     apply oop; rfl; apply Pev.load_keptA; rfl; exact yes; exact .head _; rfl; intro hcond; assumption; rfl; intro hcond; assumption; intro hcond; exact NotOwned.au
     apply omv; rfl; rfl
     (((first | (with_reducible apply OL.op) | (with_reducible apply QL.op)); (exact Guard.au); rfl; rfl); (exact Pev.call (v := .bool (agrE T.D f (bs.map Prod.fst))) rfl (by exact Args.au) (fun _ w2 hw2 => (ih q2 c2 bs w2 hsz (by omega) (hT1.at hw2 (.head _) hH3) (Arr.of_row (hw2.item (.head _)) hbok (hw2.toExt (s := w1) (.head _) hH3)) hwb).mono (fun e w3 h => ⟨h.1, hw2.ext h.2⟩))))
     apply oop; rfl; apply Pev.not; rfl; exact yes
     apply OL.nx
     rw [hbs]
     refine W.cond rfl (fun hb => ?_) (fun hb => ?_)
     ·have hb : agrE T.D f (under (L.map Prod.fst) u.1.name n) = false := by simpa using hb
      have hFf : F i = false := by rw [hFi, ra_false (show n < u.1.args.length by omega) hb]
      rw [hag, ra_false (show i < L.length by omega) hFf]
      apply W.sr
      apply oas; rfl; rfl
      apply OL.nx
      refine W.rt ?_
      ((with_reducible apply At.fin1); rfl; rfl; intro w' hw')
      exact ⟨rfl, hw'.toExt (s := w) (.tail _ (.head _)) (fun k hk => hH3 k (by omega))⟩
     ·have hb : agrE T.D f (under (L.map Prod.fst) u.1.name n) = true := by simpa using hb
      apply W.skip
      with_reducible apply At.in_normal
      with_reducible apply At.next
      apply W.reg
      apply obn; rfl; rfl; rfl; apply Bin.add_in; omega
      apply omv; rfl; rfl
      apply OL.nil
      refine At.again (n + 1) ⟨by omega, fun j hj => ?_⟩ (by omega) (by exact Sub.au) (fun w' hw' => hw'.thin (.row (by simp only [AllLe, and_true]; omega) Thin.same))
      by_cases hjn : j < n
      ·exact hn2 j hjn
      ·rw [show j = n by omega]; exact hb
   ·have hFt : F i = true := by rw [hFi, ra_true (fun k hk => hn2 k (by omega))]
    refine W.xt ?_
    with_reducible apply At.in_normal
    with_reducible apply At.next
    apply W.reg
    apply obn; rfl; rfl; rfl; apply Bin.add_in; omega
    apply omv; rfl; rfl
    apply OL.nil
    exact At.again (i + 1) ⟨by omega, hagain hFt⟩ (by omega) (by exact Sub.au) (fun w' hw' => hw'.thin (by exact Thin.au))
  ·rw [hag, ra_true (fun k hk => hdone k (by omega))]
   refine W.xt ?_
   with_reducible apply At.next
   apply W.sr
   apply oas; rfl; rfl
   apply OL.nx
   apply W.ret
   ((with_reducible apply At.fin1); rfl; rfl; intro w' hw')
   exact ⟨rfl, by (exact hw'.fr)⟩
end Go.Proofs.Ytleggdmhihcafaa.pt

/- The walk of patterns.build. Conditions: none. -/
namespace Go.Pt
open Go.Eng Go.RowKit
def conE (k : Nat) : Nat → List Co → MP
 | _, [] => []
 | i, c :: r => (c.name, .agg #[.int .i64 (k : Int), .int .i64 (i : Int), .int .i64 (c.many : Int)]) :: conE k (i + 1) r
def datE : Nat → List Da → MP
 | _, [] => []
 | k, x :: D => conE k 0 x.cons ++ datE (k + 1) D
theorem mget_app (a b : MP) (nm : ByteArray) : mget (a ++ b) nm = (mget a nm).or (mget b nm) := by
 induction a with
 | nil => rfl
 | cons p r ih =>
  rw [List.cons_append, mget, mget]
  split
  ·rfl
  ·exact ih
theorem mget_none {a : MP} {nm : ByteArray} : mget a nm = none ↔ nm ∉ a.map Prod.fst := by
 induction a with
 | nil => simp [mget]
 | cons p r ih =>
  rw [mget, List.map_cons, List.mem_cons]
  by_cases h : p.1 = nm
  ·simp [h]
  ·rw [if_neg h, ih]
   constructor
   ·rintro h1 (h2 | h2)
    ·exact h h2.symm
    ·exact h1 h2
   ·exact fun h1 h2 => h1 (.inr h2)
theorem conE_names (k : Nat) : ∀ (i : Nat) (cs : List Co), (conE k i cs).map Prod.fst = cs.map (·.name)
 | _, [] => rfl
 | i, c :: r => by rw [conE, List.map_cons, List.map_cons, conE_names k (i + 1) r]
theorem datE_names : ∀ (k : Nat) (D : List Da), (datE k D).map Prod.fst = flatN D
 | _, [] => rfl
 | k, x :: D => by
  rw [datE, List.map_append, conE_names, datE_names (k + 1) D]
  rfl
theorem conE_snoc (k : Nat) (c : Co) : ∀ (i : Nat) (cs : List Co), conE k i (cs ++ [c]) = conE k i cs ++ [(c.name, .agg #[.int .i64 (k : Int), .int .i64 ((i + cs.length : Nat) : Int), .int .i64 (c.many : Int)])]
 | i, [] => rfl
 | i, x :: r => by
  rw [List.cons_append, conE, conE, conE_snoc k c (i + 1) r, List.cons_append, List.length_cons, show i + 1 + r.length = i + (r.length + 1) by omega]
theorem datE_snoc (x : Da) : ∀ (k : Nat) (D : List Da), datE k (D ++ [x]) = datE k D ++ conE (k + D.length) 0 x.cons
 | k, [] => by simp [datE]
 | k, y :: D => by
  rw [List.cons_append, datE, datE, datE_snoc x (k + 1) D, List.append_assoc, List.length_cons, show k + 1 + D.length = k + (D.length + 1) by omega]
theorem conE_get (k : Nat) (nm : ByteArray) : ∀ (i : Nat) (cs : List Co), (match conIn cs nm with
 | none => mget (conE k i cs) nm = none
 | some c => ∃ j : Int, mget (conE k i cs) nm = some (.agg #[.int .i64 (k : Int), .int .i64 j, .int .i64 (c.many : Int)]))
 | _, [] => rfl
 | i, c :: r => by
  have ih := conE_get k nm (i + 1) r
  unfold conIn at ih ⊢
  rw [List.find?_cons]
  by_cases h : c.name = nm
  ·rw [decide_eq_true h]
   exact ⟨i, by rw [conE, mget, if_pos h]⟩
  ·rw [decide_eq_false h, conE, mget, if_neg h]
   exact ih
theorem datE_get (nm : ByteArray) : ∀ (k : Nat) (D : List Da), (match conAt D nm with
 | none => mget (datE k D) nm = none
 | some (d, c) => ∃ j : Int, mget (datE k D) nm = some (.agg #[.int .i64 ((k + d : Nat) : Int), .int .i64 j, .int .i64 (c.many : Int)]))
 | _, [] => rfl
 | k, x :: D => by
  have ih := datE_get nm (k + 1) D
  have h1 := conE_get k nm 0 x.cons
  unfold conAt
  rw [datE, mget_app]
  cases hc : conIn x.cons nm with
  | some c =>
   rw [hc] at h1
   obtain ⟨j, h1⟩ := h1
   exact ⟨j, by rw [h1]; rfl⟩
  | none =>
   rw [hc] at h1
   rw [h1]
   cases hd : conAt D nm with
   | none => rw [hd] at ih; exact ih
   | some z =>
    obtain ⟨d, c⟩ := z
    rw [hd] at ih
    obtain ⟨j, ih⟩ := ih
    exact ⟨j, by rw [show k + (d + 1) = k + 1 + d by omega]; exact ih⟩
theorem datE_tab (D : List Da) : TabM D (datE 0 D) := fun nm => by
 have h := datE_get nm 0 D
 cases hc : conAt D nm with
 | none => rw [hc] at h; exact h
 | some z =>
  obtain ⟨d, c⟩ := z
  rw [hc] at h
  obtain ⟨j, h⟩ := h
  exact ⟨j, by rw [h, Nat.zero_add]⟩
theorem conE_agg (k : Nat) {nm : ByteArray} {z : Value} : ∀ (i : Nat) (cs : List Co), mget (conE k i cs) nm = some z → ∃ z1 z2 z3 : Int, z = .agg #[.int .i64 z1, .int .i64 z2, .int .i64 z3]
 | _, [], h => by cases h
 | i, c :: r, h => by
  rw [conE, mget] at h
  split at h
  ·exact ⟨_, _, _, (Option.some.inj h).symm⟩
  ·exact conE_agg k (i + 1) r h
theorem datE_agg {nm : ByteArray} {z : Value} : ∀ (k : Nat) (D : List Da), mget (datE k D) nm = some z → ∃ z1 z2 z3 : Int, z = .agg #[.int .i64 z1, .int .i64 z2, .int .i64 z3]
 | _, [], h => by cases h
 | k, x :: D, h => by
  rw [datE, mget_app] at h
  cases hc : mget (conE k 0 x.cons) nm with
  | some y =>
   rw [hc] at h
   cases h
   exact conE_agg k 0 x.cons hc
  | none =>
   rw [hc] at h
   exact datE_agg (k + 1) D h
theorem aggM {M : MP} {D : List Da} {k : Nat} {cs : List Co} (hM : M = datE 0 D ++ conE k 0 cs) {nm : ByteArray} {z : Value} (h : mget M nm = some z) : ∃ z1 z2 z3 : Int, z = .agg #[.int .i64 z1, .int .i64 z2, .int .i64 z3] := by
 rw [hM, mget_app] at h
 cases hc : mget (datE 0 D) nm with
 | some y =>
  rw [hc] at h
  cases h
  exact datE_agg 0 D hc
 | none =>
  rw [hc] at h
  exact conE_agg k 0 cs h
end Go.Pt
namespace Go.Proofs.Ytleggdmhihcafaa.pt
open Go.RowKit Go.Eng Go.Pt
set_option maxRecDepth 100000
theorem build_calls (q : Option Addr) (cap : Nat) (ds : List (Da × DY)) (w : World) (hlen : ds.length ≤ 9223372036854775807) (h : Arr datR w (low w) ds q) :
  Calls Try.prog 34 [.slice q ds.length cap].toArray w fun e w' => Ext w w' ∧ if (flatN (ds.map Prod.fst)).Nodup then ∃ T : TT, T.ds = ds ∧ T.q = q ∧ w.heap.size ≤ T.b ∧ T.ok w' ∧ e = .returned (.tuple #[T.v, .int .i64 0]) else e = .returned (.tuple #[.agg #[.slice none 0 0, .map none], .int .i64 7]) := by
 refine enter Try.func34 rfl Try.ntmps34 rfl (Cls.start w) ?_
 obtain ⟨D, hD⟩ : ∃ D, ds.map Prod.fst = D := ⟨_, rfl⟩
 rw [hD]
 (simp only [argEnv, Nat.zero_add, Nat.reduceAdd])
 apply W.sr
 apply OL.alloc; rfl; rfl; exact CellsL.agg; (intro bk hbk; simp only [AllLe, and_true] at hbk)
 apply oas; rfl; rfl
 apply OL.nsr
 apply omv; rfl; rfl
 apply OL.makeMap; rfl; rfl; (intro bk hbk; simp only [AllLe, and_true] at hbk)
 apply oop; rfl; apply Pev.build; rfl; exact CellsL.agg; rfl; exact Fill.au; rfl
 apply OL.alloc; rfl; rfl; exact CellsL.agg; (intro bk hbk; simp only [AllLe, and_true] at hbk)
 apply OL.storeB; rfl; rfl; exact CellsL.agg; rfl; rfl; rfl; exact Swap.au; exact Put.au
 apply OL.nx
 apply W.seq
 apply W.sr
 apply omv; rfl; rfl
 apply oop; rfl; apply Pev.len_slice; rfl; exact yes; rfl
 apply omv; rfl; rfl
 apply OL.nx
 apply W.block
 rename_i b2 hb2 bm hbm
 revert bk
 intro b4 hb4
 obtain ⟨f0, hf0⟩ : ∃ f0 : ByteArray → Value, f0 = fun nm => .agg #[.slice none 0 0, .map none] := ⟨_, rfl⟩
 refine W.loop (G := Nat) (fun k => k ≤ ds.length ∧ (flatN (D.take k)).Nodup) (fun k => ds.length - k)
  (fun k => [(2, true, .pointer (some ⟨b2, 0, none⟩)), (4, true, .pointer (some ⟨b4, 0, none⟩)), (14, true, .slice q ds.length cap), (15, true, .int .i64 (ds.length : Int)), (16, true, .int .i64 (k : Int))])
  (fun k => Cls [blk b4 55 [.slice q ds.length cap, .map (some bm)], mapS bm (datE 0 (D.take k)), blk b2 55 [.slice none 0 0, .map none]] [w]) 0 ⟨Nat.zero_le _, .nil⟩ (by exact Sub.au) (fun w' hw' => hw') ?_
 rintro k ⟨hk, hnd⟩
 simp only at hk hnd ⊢
 apply W.sr
 apply obn; rfl; rfl; rfl; apply Bin.lss
 apply OL.nx
 apply W.seq
 (refine W.cnd (fun hlt => ?_) (fun hlt => ?_)) <;> (try (exfalso; first | omega | exact hlt trivial | contradiction))
 ·obtain ⟨a, u, hqa, hab, hu, hcell, hok⟩ := h.get (show k < ds.length by omega)
  obtain ⟨⟨cs, hcs, hcsa⟩, hcl⟩ := hok
  have hcsl : cs.length = u.1.cons.length := by rw [← hcs, List.length_map]
  have hab : a.block < w.heap.size := hab
  have hcell : CellsAt w (a.add (k * 3)) [.string u.2.name, .int .i64 u.2.params, .slice u.2.q u.1.cons.length u.2.cap] := hcell
  have hDk : D[k]? = some u.1 := by rw [← hD, List.getElem?_map, hu]; rfl
  have hlenD : D.length = ds.length := by rw [← hD, List.length_map]
  have htk : (D.take k).length = k := by rw [List.length_take]; omega
  have hDt : D.take (k + 1) = D.take k ++ [u.1] := by rw [List.take_add_one, hDk]; rfl
  rw [hqa]
  apply W.sk
  apply W.sb
  apply W.sr
  apply omv; rfl; rfl
  apply oop; rfl; apply Pev.idx; rfl; exact yes; rfl; exact yes; rfl; rfl; intro hcond; omega
  apply oop; rfl; apply Pev.load_keptA; rfl; exact yes; exact .head _; rfl; intro hcond; assumption; rfl; intro hcond; (rw [add_block]; assumption); intro hcond; exact NotOwned.au
  apply OL.alloc; rfl; rfl; exact CellsL.agg; (intro bk hbk; simp only [AllLe, and_true] at hbk)
  apply oas; rfl; rfl
  apply OL.storeB; rfl; rfl; exact CellsL.agg; rfl; rfl; rfl; exact Swap.au; exact Put.au
  apply OL.nsr
  apply ofa; rfl; rfl; rfl
  apply old; rfl; rfl; exact .head _; rfl; rfl
  apply oop; rfl; apply Pev.len_slice; rfl; exact yes; rfl
  apply omv; rfl; rfl
  apply OL.nx
  apply W.block
  revert bk
  intro b6 hb6
  refine W.loop (G := Nat) (fun j => j ≤ cs.length ∧ (flatN (D.take k) ++ ((cs.map Prod.fst).take j).map (·.name)).Nodup) (fun j => cs.length - j)
   (fun j => [(2, true, .pointer (some ⟨b2, 0, none⟩)), (4, true, .pointer (some ⟨b4, 0, none⟩)), (5, true, .int .i64 (k : Int)), (14, true, .slice (some a) ds.length cap), (15, true, .int .i64 (ds.length : Int)), (16, true, .int .i64 (k : Int)), (22, true, .slice u.2.q u.1.cons.length u.2.cap), (23, true, .int .i64 (u.1.cons.length : Int)), (24, true, .int .i64 (j : Int))])
   (fun j => Cls [blk b4 55 [.slice (some a) ds.length cap, .map (some bm)], mapS bm (datE 0 (D.take k) ++ conE k 0 ((cs.map Prod.fst).take j)), blk b2 55 [.slice none 0 0, .map none]] [w]) 0 ⟨Nat.zero_le _, by rw [List.take_zero, List.map_nil, List.append_nil]; exact hnd⟩ (by exact Sub.au) (fun w' hw' => by rw [List.take_zero, conE, List.append_nil]; exact hw'.thin (by exact Thin.au)) ?_
  rintro j ⟨hj, hnd2⟩
  simp only at hj hnd2 ⊢
  apply W.sr
  apply obn; rfl; rfl; rfl; apply Bin.lss
  apply OL.nx
  apply W.seq
  (refine W.cnd (fun hltj => ?_) (fun hltj => ?_)) <;> (try (exfalso; first | omega | exact hltj trivial | contradiction))
  ·obtain ⟨ac, v, hqc, habc, hv, hcellc, hokc⟩ := hcsa.get (show j < cs.length by omega)
   have habc : ac.block < w.heap.size := habc
   have hcellc : CellsAt w (ac.add (j * 2)) [.string v.1.name, .slice v.2.1 v.1.many v.2.2] := hcellc
   have hokc : v.1.many * 56 ≤ 140737488355328 := hokc
   have hvc : (cs.map Prod.fst)[j]? = some v.1 := by rw [List.getElem?_map, hv]; rfl
   have htj : ((cs.map Prod.fst).take (j + 1)) = (cs.map Prod.fst).take j ++ [v.1] := by rw [List.take_add_one, hvc]; rfl
   have htl : ((cs.map Prod.fst).take j).length = j := by rw [List.length_take, List.length_map]; omega
   rw [hqc]
   obtain ⟨M, hM⟩ : ∃ M : MP, M = datE 0 (D.take k) ++ conE k 0 ((cs.map Prod.fst).take j) := ⟨_, rfl⟩
   have hMn : M.map Prod.fst = flatN (D.take k) ++ ((cs.map Prod.fst).take j).map (·.name) := by rw [hM, List.map_append, datE_names, conE_names]
   have hpre : (M.map Prod.fst ++ [v.1.name]).Sublist (flatN D) := by
    have e1 : D = D.take k ++ u.1 :: D.drop (k + 1) := by
     rw [List.getElem?_eq_some_iff] at hDk
     obtain ⟨e2, e3⟩ := hDk
     rw [← e3, List.getElem_cons_drop, List.take_append_drop]
    have e4 : u.1.cons = (cs.map Prod.fst).take j ++ v.1 :: (cs.map Prod.fst).drop (j + 1) := by
     rw [List.getElem?_eq_some_iff] at hvc
     obtain ⟨e2, e3⟩ := hvc
     rw [← e3, List.getElem_cons_drop, List.take_append_drop, hcs]
    have e5 : flatN D = flatN (D.take k) ++ ((((cs.map Prod.fst).take j).map (·.name) ++ [v.1.name]) ++ (((cs.map Prod.fst).drop (j + 1)).map (·.name) ++ flatN (D.drop (k + 1)))) := by
     conv => lhs; rw [e1]
     unfold flatN
     rw [List.flatMap_append, List.flatMap_cons, e4]
     simp
    rw [hMn, e5, List.append_assoc]
    exact (List.Sublist.refl _).append (List.sublist_append_left _ _)
   rw [← hMn] at hnd2
   rw [← hM]
   apply W.sk
   apply W.sb
   apply W.sr
   apply omv; rfl; rfl
   apply oop; rfl; apply Pev.idx; rfl; exact yes; rfl; exact yes; rfl; rfl; intro hcond; omega
   apply oop; rfl; apply Pev.load_keptA; rfl; exact yes; exact .head _; rfl; intro hcond; assumption; rfl; intro hcond; (rw [add_block]; assumption); intro hcond; exact NotOwned.au
   apply OL.alloc; rfl; rfl; exact CellsL.agg; (intro bk hbk; simp only [AllLe, and_true] at hbk)
   apply oas; rfl; rfl
   apply OL.storeB; rfl; rfl; exact CellsL.agg; rfl; rfl; rfl; exact Swap.au; exact Put.au
   apply OL.nx
   apply W.seq
   apply W.sr
   apply ofa; rfl; rfl; rfl
   apply old; rfl; rfl; exact .tail _ (.head _); rfl; rfl
   apply ofa; rfl; rfl; rfl
   apply old; rfl; rfl; exact .head _; rfl; rfl
   cases hg : mget M v.1.name with
   | some z =>
    have hnn : ¬ (flatN D).Nodup := fun hn => by
     have h1 := List.Nodup.sublist hpre hn
     rw [List.nodup_append] at h1
     have h2 : v.1.name ∈ M.map Prod.fst := by
      refine Classical.byContradiction fun h3 => ?_
      rw [mget_none.2 h3] at hg
      cases hg
     exact h1.2.2 _ h2 _ (.head _) rfl
    obtain ⟨z1, z2, z3, hz⟩ : ∃ z1 z2 z3 : Int, z = .agg #[.int .i64 z1, .int .i64 z2, .int .i64 z3] := aggM hM hg
    rw [hz] at hg
    (((first | (with_reducible apply OL.op) | (with_reducible apply QL.op)); (exact Guard.au); rfl; rfl); (refine Pev.conv (Pev.lookup2_h (m := M) (zv := .agg #[.int .i64 0, .int .i64 0, .int .i64 0]) rfl (by (first | exact fun _ => rfl | exact fun h => h | (intro h; simp_all; done))) rfl (by (first | exact fun _ => rfl | exact fun h => h | (intro h; simp_all; done))) rfl rfl (fun w2 hw2 => hw2.item (.tail _ (.tail _ (.head _))))) (v' := .tuple #[.agg #[.int .i64 z1, .int .i64 z2, .int .i64 z3], .bool true]) (by rw [hg]; rfl)))
    apply omv; rfl; rfl
    apply oex; rfl; rfl; rfl
    apply oex; rfl; rfl; rfl
    apply OL.alloc; rfl; rfl; exact CellsL.agg; (intro bk hbk; simp only [AllLe, and_true] at hbk)
    apply OL.storeB; rfl; rfl; exact CellsL.agg; rfl; rfl; rfl; exact Swap.au; exact Put.au
    apply oas; rfl; rfl
    apply OL.nsr
    apply omv; rfl; rfl
    apply OL.nx
    refine W.cond rfl (fun _ => ?_) (fun hb => by cases hb)
    apply W.sr
    apply oop; rfl; apply Pev.build; rfl; exact CellsL.agg; rfl; exact Fill.au; rfl
    apply OL.storeB; rfl; rfl; exact CellsL.agg; rfl; rfl; rfl; exact Swap.au; exact Put.au
    apply oas; rfl; rfl
    apply OL.nx
    refine W.rt ?_
    refine At.finC1 rfl rfl rfl (.tail _ (.tail _ (.tail _ (.tail _ (.head _))))) rfl rfl (fun w' hw' => ?_)
    rw [if_neg hnn]
    exact ⟨hw'.toExt (.head _) (fun k hk => NotOwned.blk (by omega) (NotOwned.blk (by omega) (NotOwned.blk (by omega) (NotOwned.mapS (by omega) (NotOwned.blk (by omega) .nil))))), rfl⟩
   | none =>
    (((first | (with_reducible apply OL.op) | (with_reducible apply QL.op)); (exact Guard.au); rfl; rfl); (refine Pev.conv (Pev.lookup2_h (m := M) (zv := .agg #[.int .i64 0, .int .i64 0, .int .i64 0]) rfl (by (first | exact fun _ => rfl | exact fun h => h | (intro h; simp_all; done))) rfl (by (first | exact fun _ => rfl | exact fun h => h | (intro h; simp_all; done))) rfl rfl (fun w2 hw2 => hw2.item (.tail _ (.tail _ (.head _))))) (v' := .tuple #[.agg #[.int .i64 0, .int .i64 0, .int .i64 0], .bool false]) (by rw [hg]; rfl)))
    apply omv; rfl; rfl
    apply oex; rfl; rfl; rfl
    apply oex; rfl; rfl; rfl
    apply OL.alloc; rfl; rfl; exact CellsL.agg; (intro bk hbk; simp only [AllLe, and_true] at hbk)
    apply OL.storeB; rfl; rfl; exact CellsL.agg; rfl; rfl; rfl; exact Swap.au; exact Put.au
    apply oas; rfl; rfl
    apply OL.nsr
    apply omv; rfl; rfl
    apply OL.nx
    refine W.cond rfl (fun hb => by cases hb) (fun _ => ?_)
    apply W.sk
    apply W.reg
    apply ofa; rfl; rfl; rfl
    apply old; rfl; rfl; exact .tail _ (.tail _ (.head _)); rfl; rfl
    apply ofa; rfl; rfl; rfl
    apply old; rfl; rfl; exact .tail _ (.head _); rfl; rfl
    apply omv; rfl; rfl
    apply omv; rfl; rfl
    apply ofa; rfl; rfl; rfl
    apply old; rfl; rfl; exact .tail _ (.head _); rfl; rfl
    apply oop; rfl; apply Pev.len_slice; rfl; exact yes; rfl
    apply oop; rfl; apply Pev.build; rfl; exact CellsL.agg; rfl; exact Fill.au; rfl
    apply OL.mapPut; rfl; rfl; rfl; rfl; exact Hole.au; assumption
    apply OL.nil
    with_reducible apply At.in_normal
    with_reducible apply At.next
    apply W.reg
    apply obn; rfl; rfl; rfl; apply Bin.add_in; omega
    apply omv; rfl; rfl
    apply OL.nil
    have hnd3 : (flatN (D.take k) ++ ((cs.map Prod.fst).take (j + 1)).map (·.name)).Nodup := by
     rw [htj, List.map_append, ← List.append_assoc, List.nodup_append, ← hMn]
     refine ⟨hnd2, by simp, fun a ha b hb => ?_⟩
     rw [List.map_singleton, List.mem_singleton] at hb
     rw [hb]
     rintro rfl
     exact mget_none.1 hg ha
    refine At.again (j + 1) ⟨by omega, hnd3⟩ (by omega) (by exact Sub.au) (fun w' hw' => ?_)
    rw [htj, conE_snoc, ← List.append_assoc, ← hM, htl, Nat.zero_add]
    exact hw'.thin (by exact Thin.au)
  ·obtain rfl : j = cs.length := by omega
   rw [show (cs.map Prod.fst).take cs.length = cs.map Prod.fst from List.take_of_length_le (by rw [List.length_map]; exact Nat.le_refl _)] at hnd2 ⊢
   refine W.xt ?_
   with_reducible apply At.in_normal
   with_reducible apply At.next
   apply W.reg
   apply obn; rfl; rfl; rfl; apply Bin.add_in; omega
   apply omv; rfl; rfl
   apply OL.nil
   refine At.again (k + 1) ⟨by omega, ?_⟩ (by omega) (by exact Sub.au) (fun w' hw' => ?_)
   ·rw [hDt, flatN, List.flatMap_append]
    have e9 : [u.1].flatMap (fun d => d.cons.map (·.name)) = (cs.map Prod.fst).map (·.name) := by rw [hcs]; simp
    rw [e9]
    exact hnd2
   ·rw [hDt, datE_snoc, htk, Nat.zero_add, ← hcs]
    exact hw'
 ·obtain rfl : k = ds.length := by omega
  have hlenD : D.length = ds.length := by rw [← hD, List.length_map]
  rw [List.take_of_length_le (by omega)] at hnd ⊢
  refine W.xt ?_
  with_reducible apply At.next
  apply W.sr
  apply oop; rfl; apply Pev.load_blkA; rfl; exact yes; exact .head _; rfl; exact Take.au
  apply OL.storeB; rfl; rfl; exact CellsL.agg; rfl; rfl; rfl; exact Swap.au; exact Put.au
  apply oas; rfl; rfl
  apply OL.nx
  apply W.ret
  refine At.finC1 rfl rfl rfl (.tail _ (.tail _ (.head _))) rfl rfl (fun w' hw' => ?_)
  have hx : Ext w w' := hw'.toExt (.head _) (fun k hk => NotOwned.blk (by omega) (NotOwned.mapS (by omega) (NotOwned.blk (by omega) .nil)))
  rw [if_pos hnd]
  refine ⟨hx, ⟨ds, q, cap, bm, datE 0 D⟩, rfl, rfl, by simp only; omega, ⟨h.ext hx, hw'.item (.tail _ (.head _)), ?_, ?_, hlen⟩, rfl⟩
  ·show TabM (ds.map Prod.fst) _
   rw [hD]
   exact datE_tab D
  ·show Uniq (ds.map Prod.fst)
   rw [hD]
   exact conAt_uniq hnd
end Go.Proofs.Ytleggdmhihcafaa.pt

/- The walk of match.index. Conditions: none. -/
namespace Go.Pt
open Go.Eng Go.RowKit
def conV (v : Value) (cs : List Co) : MP := cs.map fun c => (c.name, v)
def datV (f : Nat → Value) : Nat → List Da → MP
 | _, [] => []
 | k, x :: D => conV (f k) x.cons ++ datV f (k + 1) D
def datP (q : Option Addr) (k : Nat) : Value := .pointer (q.map fun a => a.add (k * 3))
theorem conV_names (v : Value) (cs : List Co) : (conV v cs).map Prod.fst = cs.map (·.name) := by
 unfold conV
 rw [List.map_map]
 rfl
theorem datV_names (f : Nat → Value) : ∀ (k : Nat) (D : List Da), (datV f k D).map Prod.fst = flatN D
 | _, [] => rfl
 | k, x :: D => by
  rw [datV, List.map_append, conV_names, datV_names f (k + 1) D]
  rfl
theorem datV_snoc (f : Nat → Value) (x : Da) : ∀ (k : Nat) (D : List Da), datV f k (D ++ [x]) = datV f k D ++ conV (f (k + D.length)) x.cons
 | k, [] => by simp [datV]
 | k, y :: D => by
  rw [List.cons_append, datV, datV, datV_snoc f x (k + 1) D, List.append_assoc, List.length_cons, show k + 1 + D.length = k + (D.length + 1) by omega]
theorem conV_get (v : Value) (nm : ByteArray) : ∀ (cs : List Co), mget (conV v cs) nm = (conIn cs nm).map fun _ => v
 | [] => rfl
 | c :: r => by
  have ih := conV_get v nm r
  unfold conV conIn at ih ⊢
  rw [List.map_cons, mget, List.find?_cons]
  by_cases h : c.name = nm
  ·rw [if_pos h, decide_eq_true h]
   rfl
  ·rw [if_neg h, decide_eq_false h]
   exact ih
theorem datV_get (f : Nat → Value) (nm : ByteArray) : ∀ (k : Nat) (D : List Da), mget (datV f k D) nm = (conAt D nm).map fun z => f (k + z.1)
 | _, [] => rfl
 | k, x :: D => by
  have ih := datV_get f nm (k + 1) D
  rw [datV, mget_app, conV_get]
  unfold conAt
  cases hc : conIn x.cons nm with
  | some c => rfl
  | none =>
   rw [ih]
   cases hd : conAt D nm with
   | none => rfl
   | some z =>
    obtain ⟨d, c⟩ := z
    show some (f (k + 1 + d)) = some (f (k + (d + 1)))
    rw [show k + 1 + d = k + (d + 1) by omega]
theorem check_nodup {D : List Da} {R : List (List Ty)} (h : checkE D R = 0) : (flatN D).Nodup := by
 unfold checkE at h
 by_cases h1 : smallE D R = false
 ·rw [if_pos h1] at h
  cases h
 rw [if_neg h1] at h
 refine Classical.byContradiction fun h2 => ?_
 rw [if_pos h2] at h
 cases h
end Go.Pt
namespace Go.Proofs.Ytleggdmhihcafaa.pt
open Go.RowKit Go.Eng Go.Pt
set_option maxRecDepth 100000
theorem index_calls (q : Option Addr) (cap : Nat) (ds : List (Da × DY)) (w : World) (hlen : ds.length ≤ 9223372036854775807) (h : Arr datR w (low w) ds q) (hN : (flatN (ds.map Prod.fst)).Nodup) :
  Calls Try.prog 25 [.slice q ds.length cap].toArray w fun e w' => ∃ bm, e = .returned (.tuple #[.map (some bm), .int .i64 0]) ∧ w.heap.size ≤ bm ∧ bm < w'.heap.size ∧ (mapS bm (datV (datP q) 0 (ds.map Prod.fst))).holds w' ∧ Ext w w' := by
 refine enter Try.func25 rfl Try.ntmps25 rfl (Cls.start w) ?_
 obtain ⟨D, hD⟩ : ∃ D, ds.map Prod.fst = D := ⟨_, rfl⟩
 rw [hD] at hN ⊢
 (simp only [argEnv, Nat.zero_add, Nat.reduceAdd])
 apply W.sr
 apply oas; rfl; rfl
 apply oas; rfl; rfl
 apply OL.nsr
 apply OL.makeMap; rfl; rfl; (intro bk hbk; simp only [AllLe, and_true] at hbk)
 apply oas; rfl; rfl
 apply OL.nx
 apply W.seq
 apply W.sr
 apply omv; rfl; rfl
 apply oop; rfl; apply Pev.len_slice; rfl; exact yes; rfl
 apply omv; rfl; rfl
 apply OL.nx
 apply W.block
 revert bk
 intro bm hbm
 have hlenD : D.length = ds.length := by rw [← hD, List.length_map]
 refine W.loop (G := Nat) (fun k => k ≤ ds.length) (fun k => ds.length - k)
  (fun k => [(0, true, .slice q ds.length cap), (4, true, .map (some bm)), (10, true, .int .i64 (ds.length : Int)), (11, true, .int .i64 (k : Int))])
  (fun k => Cls [mapS bm (datV (datP q) 0 (D.take k))] [w]) 0 (Nat.zero_le _) (by exact Sub.au) (fun w' hw' => hw') ?_
 rintro k hk
 simp only at hk ⊢
 apply W.sr
 apply obn; rfl; rfl; rfl; apply Bin.lss
 apply OL.nx
 apply W.seq
 (refine W.cnd (fun hlt => ?_) (fun hlt => ?_)) <;> (try (exfalso; first | omega | exact hlt trivial | contradiction))
 ·obtain ⟨a, u, hqa, hab, hu, hcell, hok⟩ := h.get (show k < ds.length by omega)
  obtain ⟨⟨cs, hcs, hcsa⟩, hcl⟩ := hok
  have hcsl : cs.length = u.1.cons.length := by rw [← hcs, List.length_map]
  have hab : a.block < w.heap.size := hab
  have hcell : CellsAt w (a.add (k * 3)) [.string u.2.name, .int .i64 u.2.params, .slice u.2.q u.1.cons.length u.2.cap] := hcell
  have hDk : D[k]? = some u.1 := by rw [← hD, List.getElem?_map, hu]; rfl
  have htk : (D.take k).length = k := by rw [List.length_take]; omega
  have hDt : D.take (k + 1) = D.take k ++ [u.1] := by rw [List.take_add_one, hDk]; rfl
  rw [hqa]
  apply W.sk
  apply W.sb
  apply W.sr
  apply omv; rfl; rfl
  apply oas; rfl; rfl
  apply OL.nsr
  apply omv; rfl; rfl
  apply omv; rfl; rfl
  apply oop; rfl; apply Pev.idx; rfl; exact yes; rfl; exact yes; rfl; rfl; intro hcond; omega
  apply oop; rfl; apply Pev.fldA; rfl; exact yes; rfl
  apply oop; rfl; apply Pev.load_kept; rfl; exact yes; exact .head _; rfl; intro hcond; apply CellsAt.at_ (by assumption) rfl; intro hcond; (simp only [add_block]; assumption); intro hcond; exact NotOwned.au
  apply oop; rfl; apply Pev.len_slice; rfl; exact yes; rfl
  apply omv; rfl; rfl
  apply OL.nx
  apply W.block
  refine W.loop (G := Nat) (fun j => j ≤ cs.length) (fun j => cs.length - j)
   (fun j => [(0, true, .slice (some a) ds.length cap), (4, true, .map (some bm)), (5, true, .int .i64 (k : Int)), (10, true, .int .i64 (ds.length : Int)), (11, true, .int .i64 (k : Int)), (18, true, .slice u.2.q u.1.cons.length u.2.cap), (19, true, .int .i64 (u.1.cons.length : Int)), (20, true, .int .i64 (j : Int))])
   (fun j => Cls [mapS bm (datV (datP (some a)) 0 (D.take k) ++ conV (datP (some a) k) ((cs.map Prod.fst).take j))] [w]) 0 (Nat.zero_le _) (by exact Sub.au) (fun w' hw' => by rw [List.take_zero, conV, List.map_nil, List.append_nil]; exact hw') ?_
  rintro j hj
  simp only at hj ⊢
  apply W.sr
  apply obn; rfl; rfl; rfl; apply Bin.lss
  apply OL.nx
  apply W.seq
  (refine W.cnd (fun hltj => ?_) (fun hltj => ?_)) <;> (try (exfalso; first | omega | exact hltj trivial | contradiction))
  ·obtain ⟨ac, v, hqc, habc, hv, hcellc, hokc⟩ := hcsa.get (show j < cs.length by omega)
   have habc : ac.block < w.heap.size := habc
   have hcellc : CellsAt w (ac.add (j * 2)) [.string v.1.name, .slice v.2.1 v.1.many v.2.2] := hcellc
   have hvc : (cs.map Prod.fst)[j]? = some v.1 := by rw [List.getElem?_map, hv]; rfl
   have htj : ((cs.map Prod.fst).take (j + 1)) = (cs.map Prod.fst).take j ++ [v.1] := by rw [List.take_add_one, hvc]; rfl
   rw [hqc]
   obtain ⟨M, hM⟩ : ∃ M : MP, M = datV (datP (some a)) 0 (D.take k) ++ conV (datP (some a) k) ((cs.map Prod.fst).take j) := ⟨_, rfl⟩
   have hMn : M.map Prod.fst = flatN (D.take k) ++ ((cs.map Prod.fst).take j).map (·.name) := by rw [hM, List.map_append, datV_names, conV_names]
   have hpre : (M.map Prod.fst ++ [v.1.name]).Sublist (flatN D) := by
    have e1 : D = D.take k ++ u.1 :: D.drop (k + 1) := by
     rw [List.getElem?_eq_some_iff] at hDk
     obtain ⟨e2, e3⟩ := hDk
     rw [← e3, List.getElem_cons_drop, List.take_append_drop]
    have e4 : u.1.cons = (cs.map Prod.fst).take j ++ v.1 :: (cs.map Prod.fst).drop (j + 1) := by
     rw [List.getElem?_eq_some_iff] at hvc
     obtain ⟨e2, e3⟩ := hvc
     rw [← e3, List.getElem_cons_drop, List.take_append_drop, hcs]
    have e5 : flatN D = flatN (D.take k) ++ ((((cs.map Prod.fst).take j).map (·.name) ++ [v.1.name]) ++ (((cs.map Prod.fst).drop (j + 1)).map (·.name) ++ flatN (D.drop (k + 1)))) := by
     conv => lhs; rw [e1]
     unfold flatN
     rw [List.flatMap_append, List.flatMap_cons, e4]
     simp
    rw [hMn, e5, List.append_assoc]
    exact (List.Sublist.refl _).append (List.sublist_append_left _ _)
   have hg : mget M v.1.name = none := by
    refine mget_none.2 fun h2 => ?_
    have h1 := List.Nodup.sublist hpre hN
    rw [List.nodup_append] at h1
    exact h1.2.2 _ h2 _ (.head _) rfl
   rw [← hM]
   apply W.sk
   apply W.sb
   apply W.sr
   apply oop; rfl; apply Pev.idx; rfl; exact yes; rfl; exact yes; rfl; rfl; intro hcond; omega
   apply oop; rfl; apply Pev.load_keptA; rfl; exact yes; exact .head _; rfl; intro hcond; assumption; rfl; intro hcond; (rw [add_block]; assumption); intro hcond; exact NotOwned.au
   apply OL.alloc; rfl; rfl; exact CellsL.agg; (intro bk hbk; simp only [AllLe, and_true] at hbk)
   apply OL.storeB; rfl; rfl; exact CellsL.agg; rfl; rfl; rfl; exact Swap.au; exact Put.au
   apply OL.nx
   apply W.seq
   apply W.sr
   apply omv; rfl; rfl
   apply ofa; rfl; rfl; rfl
   apply old; rfl; rfl; exact .head _; rfl; rfl
   apply oop; rfl; apply Pev.lookup_no; rfl; exact yes; rfl; exact yes; rfl; rfl; exact .tail _ (.head _); assumption
   apply obn; rfl; rfl; rfl; apply Bin.ptr_nnil; rfl
   apply OL.nx
   refine W.cond rfl (fun hb => by cases hb) (fun _ => ?_)
   apply W.sk
   apply W.regq; apply Split.s rfl; apply Split.s rfl; apply Split.s rfl; apply Split.s rfl; apply Split.s rfl; apply Split.s rfl; exact Split.z rfl; kernel_rfl; decide +kernel; exact fun w hw => hw.drew
   apply qmv; rfl; rfl
   apply qfa; rfl; rfl; rfl
   apply qld; rfl; rfl; exact .head _; rfl; rfl
   apply qmv; rfl; rfl
   apply qmv; rfl; rfl
   apply qop; rfl; apply Pev.idx; rfl; exact yes; rfl; exact yes; rfl; rfl; intro hcond; omega
   with_reducible apply QL.tail
   apply OL.mapPut; rfl; rfl; rfl; rfl; exact Hole.au; assumption
   apply OL.nil
   with_reducible apply At.in_normal
   with_reducible apply At.next
   apply W.reg
   apply obn; rfl; rfl; rfl; apply Bin.add_in; omega
   apply omv; rfl; rfl
   apply OL.nil
   refine At.again (j + 1) (by omega) (by omega) (by exact Sub.au) (fun w' hw' => ?_)
   rw [htj]
   unfold conV at hM ⊢
   rw [List.map_append, ← List.append_assoc, ← hM]
   exact hw'.thin (by exact Thin.au)
  ·obtain rfl : j = cs.length := by omega
   rw [show (cs.map Prod.fst).take cs.length = cs.map Prod.fst from List.take_of_length_le (by rw [List.length_map]; exact Nat.le_refl _)]
   refine W.xt ?_
   with_reducible apply At.in_normal
   with_reducible apply At.next
   apply W.reg
   apply obn; rfl; rfl; rfl; apply Bin.add_in; omega
   apply omv; rfl; rfl
   apply OL.nil
   refine At.again (k + 1) (by omega) (by omega) (by exact Sub.au) (fun w' hw' => ?_)
   rw [hDt, datV_snoc, htk, Nat.zero_add, ← hcs]
   exact hw'
 ·obtain rfl : k = ds.length := by omega
  rw [List.take_of_length_le (by omega)]
  refine W.xt ?_
  with_reducible apply At.next
  apply W.sr
  apply omv; rfl; rfl
  apply oas; rfl; rfl
  apply oas; rfl; rfl
  apply OL.nx
  apply W.ret
  ((with_reducible apply At.fin2); rfl; rfl; rfl; intro w' hw')
  exact ⟨bm, rfl, by omega, hw'.lt _ (.head _) bm rfl, hw'.item (.head _), hw'.toExt (.head _) (fun k hk => NotOwned.mapS (by omega) .nil)⟩
end Go.Proofs.Ytleggdmhihcafaa.pt

/- Items held together in a bag (the same as in SrP, which is not imported beside this). General. No condition. -/
namespace Go.Eng
open Go.RowKit
def bag (B : Nat) (L : List Item) : Item :=
 ⟨fun k => B ≤ k ∧ ∃ i ∈ L, i.own k, fun w => (∀ i ∈ L, i.holds w ∧ ∀ k, i.own k → B ≤ k) ∧ L.Pairwise (fun (i j : Item) => ∀ k : Nat, i.own k → ¬ j.own k),
  fun w w' hk h => ⟨fun i hi => ⟨i.stab w w' (fun k ho => hk k ⟨(h.1 i hi).2 k ho, i, hi, ho⟩) (h.1 i hi).1, (h.1 i hi).2⟩, h.2⟩⟩
theorem NotOwned.bag {H : List Item} {B k : Nat} {L : List Item} (h : k < B) (r : NotOwned H k) : NotOwned (Eng.bag B L :: H) k := NotOwned.any (fun ho => Nat.not_le_of_lt h ho.1) r
section
variable {H : List Item} {S : List World} {w : World} {B : Nat} {L L' : List Item} {i : Item}
theorem Cls.bag_nil (h : Cls H S w) (B : Nat) : Cls (bag B [] :: H) S w :=
 h.add (Keep.refl _ w) _ ⟨fun i hi => by (cases hi), .nil⟩ (fun k hk => by obtain ⟨_, i, hi, _⟩ := hk; cases hi)
theorem Cls.bag_in (h : Cls (i :: bag B L :: H) S w) (hB : ∀ k, i.own k → B ≤ k) : Cls (bag B (i :: L) :: H) S w := by
 have hd := h.dj
 rw [List.pairwise_cons, List.pairwise_cons] at hd
 obtain ⟨h1, h2, h3⟩ := hd
 have hb := h.holds (bag B L) (by simp)
 refine ⟨fun j hj => ?_, fun j hj => ?_, ?_, fun s hs => (h.kp s hs).mono fun k _ ⟨j, hj, hk⟩ => ?_⟩
 ·rcases List.mem_cons.1 hj with rfl | hj
  ·refine ⟨fun x hx => ?_, List.pairwise_cons.2 ⟨fun x hx k hk hxk => ?_, hb.2⟩⟩
   ·rcases List.mem_cons.1 hx with rfl | hx
    ·exact ⟨h.holds _ (.head _), hB⟩
    ·exact hb.1 x hx
   ·exact h1 _ (.head _) k hk ⟨hB k hk, x, hx, hxk⟩
  ·exact h.holds j (by simp [hj])
 ·rcases List.mem_cons.1 hj with rfl | hj
  ·rintro k ⟨hk, x, hx, hxk⟩
   rcases List.mem_cons.1 hx with rfl | hx
   ·exact h.lt _ (.head _) k hxk
   ·exact h.lt (bag B L) (by simp) k ⟨hk, x, hx, hxk⟩
  ·exact h.lt j (by simp [hj])
 ·refine List.pairwise_cons.2 ⟨fun j hj k hk hjk => ?_, h3⟩
  obtain ⟨hk, x, hx, hxk⟩ := hk
  rcases List.mem_cons.1 hx with rfl | hx
  ·exact h1 j (.tail _ hj) k hxk hjk
  ·exact h2 j hj k ⟨hk, x, hx, hxk⟩ hjk
 ·rcases List.mem_cons.1 hj with rfl | hj
  ·exact ⟨_, .head _, hB k hk, _, .head _, hk⟩
  ·rcases List.mem_cons.1 hj with rfl | hj
   ·obtain ⟨hk, x, hx, hxk⟩ := hk
    exact ⟨_, .head _, hk, x, .tail _ hx, hxk⟩
   ·exact ⟨j, .tail _ hj, hk⟩
theorem Cls.bag_out (h : Cls (bag B (i :: L) :: H) S w) : Cls (i :: bag B L :: H) S w := by
 have hd := h.dj
 rw [List.pairwise_cons] at hd
 obtain ⟨h1, h3⟩ := hd
 obtain ⟨hb, hp⟩ := h.holds (bag B (i :: L)) (.head _)
 rw [List.pairwise_cons] at hp
 have hi := hb i (.head _)
 refine ⟨fun j hj => ?_, fun j hj => ?_, ?_, fun s hs => (h.kp s hs).mono fun k _ ⟨j, hj, hk⟩ => ?_⟩
 ·rcases List.mem_cons.1 hj with rfl | hj
  ·exact hi.1
  ·rcases List.mem_cons.1 hj with rfl | hj
   ·exact ⟨fun x hx => hb x (.tail _ hx), hp.2⟩
   ·exact h.holds j (.tail _ hj)
 ·rcases List.mem_cons.1 hj with rfl | hj
  ·exact fun k hk => h.lt _ (.head _) k ⟨hi.2 k hk, _, .head _, hk⟩
  ·rcases List.mem_cons.1 hj with rfl | hj
   ·rintro k ⟨hk, x, hx, hxk⟩
    exact h.lt _ (.head _) k ⟨hk, x, .tail _ hx, hxk⟩
   ·exact h.lt j (.tail _ hj)
 ·refine List.pairwise_cons.2 ⟨fun j hj k hk hjk => ?_, List.pairwise_cons.2 ⟨fun j hj k hk hjk => ?_, h3⟩⟩
  ·rcases List.mem_cons.1 hj with rfl | hj
   ·obtain ⟨_, x, hx, hxk⟩ := hjk
    exact hp.1 x hx k hk hxk
   ·exact h1 j hj k ⟨hi.2 k hk, _, .head _, hk⟩ hjk
  ·obtain ⟨hk, x, hx, hxk⟩ := hk
   exact h1 j hj k ⟨hk, x, .tail _ hx, hxk⟩ hjk
 ·rcases List.mem_cons.1 hj with rfl | hj
  ·obtain ⟨hk, x, hx, hxk⟩ := hk
   rcases List.mem_cons.1 hx with rfl | hx
   ·exact ⟨_, .head _, hxk⟩
   ·exact ⟨_, .tail _ (.head _), hk, x, hx, hxk⟩
  ·exact ⟨j, .tail _ (.tail _ hj), hk⟩
end
end Go.Eng

/- The builder's contract, and the walk of other. Conditions: none. -/
namespace Go.Eng
open Go.RowKit
section
variable {S : List World} {w : World} {B : Nat}
theorem Cls.bag_all : ∀ {Ls H : List Item}, Cls (Ls ++ H) S w → (∀ i ∈ Ls, ∀ k, i.own k → B ≤ k) → Cls (bag B Ls :: H) S w
 | [], H, h, _ => h.bag_nil B
 | i :: Ls, H, h, hB => by
  have h1 : Cls (Ls ++ (i :: H)) S w := h.perm List.perm_middle.symm
  have h2 := Cls.bag_all h1 (fun j hj => hB j (.tail _ hj))
  exact (h2.perm (List.Perm.swap _ _ _)).bag_in (hB i (.head _))
theorem Cls.bag_open : ∀ {Ls H : List Item}, Cls (bag B Ls :: H) S w → Cls (Ls ++ H) S w
 | [], H, h => h.thin (.any (fun k hk => by
   obtain ⟨_, i, hi, _⟩ := hk
   cases hi) Thin.same)
 | i :: Ls, H, h => by
  have h1 := h.bag_out.perm (List.Perm.swap _ _ _)
  have h2 := Cls.bag_open h1
  exact h2.perm List.perm_middle
end
end Go.Eng
namespace Go.Pt
open Go.Eng Go.RowKit
structure Mo (d b : Nat) (s : St) : Prop where
 out : s.out.length + d ≤ s.many
 lim : (s.full = false ∧ s.many ≤ 4096) ∨ (s.full = true ∧ s.many ≤ b)
theorem Mo.le {d b b' : Nat} {s : St} (h : Mo d b s) (hb : b ≤ b') : Mo d b' s := ⟨h.out, h.lim.imp id fun h => ⟨h.1, Nat.le_trans h.2 hb⟩⟩
theorem Mo.enter {d b : Nat} {s : St} (h : Mo d b s) (hb : 4097 ≤ b) : Mo (d + 1) (b + 1) (enterS s) := by
 obtain ⟨h1, h2⟩ := h
 refine ⟨?_, ?_⟩
 ·show s.out.length + (d + 1) ≤ s.many + 1
  omega
 simp only [enterS]
 rcases h2 with ⟨h3, h4⟩ | ⟨h3, h4⟩
 ·rw [h3, Bool.false_or]
  by_cases h5 : 4096 < s.many + 1
  ·exact .inr ⟨decide_eq_true h5, by omega⟩
  ·exact .inl ⟨decide_eq_false h5, by omega⟩
 ·rw [h3]
  exact .inr ⟨rfl, by omega⟩
theorem Mo.add {d b : Nat} {s : St} (h : Mo (d + 1) b s) (t : Nd) : Mo d b (addN s t).1 := by
 obtain ⟨h1, h2⟩ := h
 unfold addN
 split
 ·refine ⟨?_, h2⟩
  show s.out.length + d ≤ s.many
  omega
 ·refine ⟨?_, h2⟩
  show (s.out ++ [t]).length + d ≤ s.many
  rw [List.length_append, List.length_singleton]
  omega
theorem Mo.lt {d b : Nat} {s : St} (h : Mo d b s) (hb : 4096 ≤ b) : s.many ≤ b := by
 rcases h.lim with h | h <;> omega
structure InB (D : List Da) (s : World) (L : List (Addr × List Value)) (q qp : Option Addr) (capp : Nat) (rs : List RowE) (ps : List PathE) (f : Nat) : Prop where
 rsl : Seen s L q (cat rowC rs)
 rel : ∀ r ∈ rs, Seen s L r.2.2.1 (cat tyR.c r.2.1) ∧ r.2.1.length ≤ r.2.2.2 ∧ ∀ z ∈ r.2.1, TyO s (low s) z.1 z.2
 r64 : rs.length ≤ 64
 psl : Seen s L qp (cat pthC ps)
 pcap : ps.length ≤ capp
 pel : ∀ p ∈ ps, Seen s L p.2.1 (intV p.1) ∧ 0 < p.1.length ∧ p.1.length + wtR (rowsOf (rs.map rowP)) ≤ 900
 mat : Mat D (rowsOf (rs.map rowP)) ps.length
 wtf : wtR (rowsOf (rs.map rowP)) < f
 cols : ps.length + wtR (rowsOf (rs.map rowP)) ≤ 816
theorem InB.mono {D : List Da} {s : World} {L L' : List (Addr × List Value)} {q qp : Option Addr} {capp : Nat} {rs : List RowE} {ps : List PathE} {f : Nat} (h : InB D s L q qp capp rs ps f) (hL : ∀ x ∈ L, x ∈ L') : InB D s L' q qp capp rs ps f :=
 ⟨h.rsl.mono hL, fun r hr => ⟨(h.rel r hr).1.mono hL, (h.rel r hr).2⟩, h.r64, h.psl.mono hL, h.pcap, fun p hp => ⟨(h.pel p hp).1.mono hL, (h.pel p hp).2⟩, h.mat, h.wtf, h.cols⟩
def rowsL (q : Option Addr) (rs : List RowE) : List (Addr × List Value) := slL q (cat rowC rs) ++ rs.flatMap fun r => slL r.2.2.1 (cat tyR.c r.2.1)
theorem Seen.fr {s w w' : World} {L : List (Addr × List Value)} {q : Option Addr} {vs : List Value} (h : FrS w w' vs q) (hL : ∀ x ∈ slL q vs, x ∈ L) : Seen s L q vs := Seen.new (fun hl => by
 obtain ⟨a, h1, _⟩ := h hl
 exact ⟨a, h1⟩) hL
theorem slL_fr {w w' : World} {q : Option Addr} {vs : List Value} (h : FrS w w' vs q) : ∀ x ∈ slL q vs, fresh w w' x.1.block ∧ CellsAt w' x.1 x.2 := fun x hx => by
 obtain ⟨h1, h2, h3⟩ := slL_mem hx
 obtain ⟨a, h4, h5, h6⟩ := h h3
 rw [h1] at h4
 rw [Option.some.inj h4, h2]
 exact ⟨h5, h6⟩
theorem rowsL_fr {w w' : World} {q : Option Addr} {rs : List RowE} (h : FrS w w' (cat rowC rs) q) (hr : ∀ r ∈ rs, FrS w w' (cat tyR.c r.2.1) r.2.2.1) : ∀ x ∈ rowsL q rs, fresh w w' x.1.block ∧ CellsAt w' x.1 x.2 := fun x hx => by
 rcases List.mem_append.1 hx with hx | hx
 ·exact slL_fr h x hx
 ·obtain ⟨r, h1, h2⟩ := List.mem_flatMap.1 hx
  exact slL_fr (hr r h1) x h2
theorem pathsN {s w w' : World} {L : List (Addr × List Value)} {q : Option Addr} {old ps : List PathE} (ho : ∀ p ∈ old, Seen s L p.2.1 (intV p.1)) (h : FrS w w' (cat pthC ps) q) (hp : ∀ p ∈ ps, p ∈ old ∨ (FrS w w' (intV p.1) p.2.1 ∧ 0 < p.1.length)) :
  ∃ L2 : List (Addr × List Value), (∀ x ∈ L2, fresh w w' x.1.block ∧ CellsAt w' x.1 x.2) ∧ Seen s (L ++ L2) q (cat pthC ps) ∧ ∀ p ∈ ps, Seen s (L ++ L2) p.2.1 (intV p.1) := by
 have key : ∀ l : List PathE, (∀ p ∈ l, p ∈ old ∨ (FrS w w' (intV p.1) p.2.1 ∧ 0 < p.1.length)) → ∃ L2 : List (Addr × List Value), (∀ x ∈ L2, fresh w w' x.1.block ∧ CellsAt w' x.1 x.2) ∧ ∀ p ∈ l, Seen s (L ++ L2) p.2.1 (intV p.1) := fun l => by
  induction l with
  | nil => exact fun _ => ⟨[], fun x hx => (by cases hx), fun p hp => (by cases hp)⟩
  | cons p l ih =>
   intro hl
   obtain ⟨L2, h1, h2⟩ := ih (fun x hx => hl x (.tail _ hx))
   rcases hl p (.head _) with h3 | ⟨h3, _⟩
   ·refine ⟨L2, h1, fun x hx => ?_⟩
    rcases List.mem_cons.1 hx with rfl | hx
    ·exact (ho _ h3).mono (fun y hy => List.mem_append_left _ hy)
    ·exact h2 x hx
   ·refine ⟨L2 ++ slL p.2.1 (intV p.1), fun x hx => ?_, fun x hx => ?_⟩
    ·rcases List.mem_append.1 hx with hx | hx
     ·exact h1 x hx
     ·exact slL_fr h3 x hx
    ·rw [← List.append_assoc]
     rcases List.mem_cons.1 hx with rfl | hx
     ·exact Seen.fr h3 (fun y hy => List.mem_append_right _ hy)
     ·exact (h2 x hx).mono (fun y hy => List.mem_append_left _ hy)
 obtain ⟨L2, h1, h2⟩ := key ps hp
 refine ⟨L2 ++ slL q (cat pthC ps), fun x hx => ?_, ?_, fun p hp => ?_⟩
 ·rcases List.mem_append.1 hx with hx | hx
  ·exact h1 x hx
  ·exact slL_fr h x hx
 ·exact Seen.fr h (fun y hy => List.mem_append_right _ (List.mem_append_right _ hy))
 ·rw [← List.append_assoc]
  exact (h2 p hp).mono (fun y hy => List.mem_append_left _ hy)
theorem narrowM_len {at_ : Nat} {is : Ty → Bool} {many : Nat} {rows : List RowP} : (narrowM at_ is many rows).length ≤ rows.length := List.length_filterMap_le _ _
theorem InB.below {D : List Da} {s : World} {L L3 : List (Addr × List Value)} {q qp q2 qp2 : Option Addr} {capp capp2 at_ many : Nat} {is : Ty → Bool} {nm : ByteArray} {rs rs2 : List RowE} {ps ps2 : List PathE} {f : Nat} (h : InB D s L q qp capp rs ps (f + 1)) (hat : at_ < ps.length)
  (hd : ∃ r ∈ rs.map rowP, ∃ p, r.2[at_]? = some p ∧ wtA (fieldsOf p many) + (1 + many) ≤ wt p)
  (hk : ∀ r ∈ rs.map rowP, ∀ p, r.2[at_]? = some p → free p = false → is p = true → p.kind = 3 → p.name = nm ∧ p.args.length = many) (h3 : 0 < many → ∀ r ∈ rs.map rowP, ∀ p, r.2[at_]? = some p → free p = false → p.kind = 3)
  (hr2 : rs2.map rowP = narrowM at_ is many (rs.map rowP)) (hp2 : ps2.map Prod.fst = belowM (ps.map Prod.fst) at_ many) (hrs : Seen s L3 q2 (cat rowC rs2)) (hre : ∀ r ∈ rs2, Seen s L3 r.2.2.1 (cat tyR.c r.2.1) ∧ r.2.1.length ≤ r.2.2.2 ∧ ∀ z ∈ r.2.1, TyO s (low s) z.1 z.2)
  (hps : Seen s L3 qp2 (cat pthC ps2)) (hpc : ps2.length ≤ capp2) (hpe : ∀ p ∈ ps2, Seen s L3 p.2.1 (intV p.1)) : InB D s L3 q2 qp2 capp2 rs2 ps2 f := by
 obtain ⟨r0, hr0, p0, hp0, hw0⟩ := hd
 have hwt := narrowM_wt (is := is) hr0 hp0 hw0
 have hmat := narrowM_mat h.mat hat hk h3
 have hl : (ps2.map Prod.fst).length = (ps.map Prod.fst).length - 1 + many := by rw [hp2, belowM_len (by rw [List.length_map]; exact hat)]
 rw [List.length_map, List.length_map] at hl
 have hwf := h.wtf
 have hcl := h.cols
 rw [← hr2] at hwt hmat
 refine ⟨hrs, hre, ?_, hps, hpc, fun p hp => ⟨hpe p hp, ?_⟩, by rw [hl]; exact hmat, by omega, by omega⟩
 ·have h1 := congrArg List.length hr2
  rw [List.length_map] at h1
  rw [h1]
  have := h.r64
  exact Nat.le_trans narrowM_len (by rw [List.length_map]; exact this)
 ·have hm : p.1 ∈ belowM (ps.map Prod.fst) at_ many := by
   rw [← hp2]
   exact List.mem_map_of_mem hp
  unfold belowM at hm
  have old : ∀ x ∈ ps.map Prod.fst, 0 < x.length ∧ x.length + wtR (rowsOf (rs.map rowP)) ≤ 900 := fun x hx => by
   obtain ⟨y, hy, rfl⟩ := List.mem_map.1 hx
   exact (h.pel y hy).2
  rcases List.mem_append.1 hm with hm | hm
  ·have := old p.1 (List.mem_of_mem_take hm)
   omega
  rcases List.mem_append.1 hm with hm | hm
  ·have := old p.1 (List.mem_of_mem_drop hm)
   omega
  obtain ⟨k, _, hk⟩ := List.mem_map.1 hm
  have h5 := old ((ps.map Prod.fst).getD at_ []) (by
   rw [List.getD_eq_getElem?_getD, List.getElem?_eq_getElem (by rw [List.length_map]; exact hat)]
   exact List.getElem_mem _)
  rw [← hk, List.length_append, List.length_singleton]
  omega
end Go.Pt
namespace Go.Proofs.Ytleggdmhihcafaa.pt
open Go.RowKit Go.Eng Go.Pt
set_option maxRecDepth 100000
structure Bas (D : List Da) (s : World) (bm : Nat) (qd : Option Addr) (ds : List (Da × DY)) : Prop where
 eq : ds.map Prod.fst = D
 arr : Arr datR s (low s) ds qd
 map : (mapS bm (datV (datP qd) 0 D)).holds s
 lt : bm < s.heap.size
 dl : ds.length ≤ 9223372036854775807
 d256 : ∀ x ∈ ds, x.1.cons.length ≤ 256
 un : Uniq D
def BuildC (D : List Da) (s : World) (bm : Nat) (f : Nat) : Prop :=
 ∀ (S : List World) (X : Eng.Item) (bb : Nat) (g : BG) (q qp : Option Addr) (cap capp d b : Nat) (rs : List RowE) (ps : List PathE) (w : World), s ∈ S → s.heap.size ≤ bb → (∀ k, X.own k → s.heap.size ≤ k) → (∀ z ∈ g.outs, NdSeen s g.L z) → InB D s g.L q qp capp rs ps f → Mo d b g.st → 4097 + 400 * f ≤ b → b ≤ 1000000 → Cls (bI s.heap.size bb bm g X) S w →
  Calls Try.prog 26 [.pointer (some ⟨bb, 0, none⟩), .slice q rs.length cap, .slice qp ps.length capp].toArray w fun e w' => ∃ g' : BG, e = .returned (.int .i64 (buildE D f g.st (rs.map rowP) (ps.map Prod.fst)).2) ∧ g'.st = (buildE D f g.st (rs.map rowP) (ps.map Prod.fst)).1 ∧ (∀ x ∈ g.L, x ∈ g'.L) ∧ (∀ z ∈ g'.outs, NdSeen s g'.L z) ∧ Mo d (b + 1) g'.st ∧ Cls (bI s.heap.size bb bm g' X) S w'
theorem InB.row {D : List Da} {s : World} {L : List (Addr × List Value)} {q qp : Option Addr} {capp : Nat} {rs : List RowE} {ps : List PathE} {f : Nat} (h : InB D s L q qp capp rs ps f) {H : List Eng.Item} {S : List World} {w : World} {O : Nat → Prop} (hw : Cls H S w) (hs : s ∈ S) (ha : arena s.heap.size O L ∈ H) (hno : ∀ k, k < s.heap.size → NotOwned H k) {r : RowE} (hr : r ∈ rs) : RowOk s w r ∧ r.2.1.length = ps.length := by
 obtain ⟨h1, h2, h3⟩ := h.rel r hr
 have hm : (r.2.1.map Prod.fst) ∈ rowsOf (rs.map rowP) := List.mem_map_of_mem (f := Prod.snd) (List.mem_map_of_mem (f := rowP) hr)
 have hl := h.mat.len _ hm
 rw [List.length_map] at hl
 have hc := h.cols
 refine ⟨⟨h1.slAt hw hs ha hno, h2, by omega, h3, fun z hz hf => ?_⟩, hl⟩
 have hw1 : wt z.1 ≤ wtA (r.2.1.map Prod.fst) := wtA_mem (List.mem_map_of_mem hz)
 have hw2 := wtR_mem hm
 rw [wt_eq, if_neg (by rw [hf]; decide)] at hw1
 omega
theorem narrow_in (D : List Da) (s : World) (S : List World) (H : List Eng.Item) (F : Eng.Item → List Eng.Item) (n : Nat) (OA : Nat → Prop) (L : List (Addr × List Value)) (q qp : Option Addr) (cap capp at_ many fu : Nat) (rs : List RowE) (ps : List PathE) (f : FuncId) (first caps : List Value) (is : Ty → Bool) (w : World) (hs : s ∈ S) (hh : Hole n H (arena s.heap.size OA L) F) (hno : ∀ k, k < s.heap.size → NotOwned H k) (hin : InB D s L q qp capp rs ps fu) (hat : at_ < ps.length) (hmany : many ≤ 100000)
  (hf : callable Try.prog f = true) (hp : ∀ (z : Ty × PY) w', Ext w w' → Calls Try.prog f (first ++ [Value.agg (tyc z.1 z.2).toArray] ++ caps).toArray w' fun e w'' => e = .returned (.bool (is z.1)) ∧ Ext w' w'') (hw : Cls H S w) :
  Calls Try.prog 54 [.slice q rs.length cap, .int .i64 (at_ : Int), .func (.func f) first.toArray caps.toArray, .int .i64 (many : Int)].toArray w fun e w' => ∃ (q' : Option Addr) (c' : Nat) (rs' : List RowE) (OA' : Nat → Prop), e = .returned (.slice q' rs'.length c') ∧ rs'.map rowP = narrowM at_ is many (rs.map rowP) ∧ Seen s (L ++ rowsL q' rs') q' (cat rowC rs') ∧ (∀ r ∈ rs', Seen s (L ++ rowsL q' rs') r.2.2.1 (cat tyR.c r.2.1) ∧ r.2.1.length ≤ r.2.2.2 ∧ ∀ z ∈ r.2.1, TyO s (low s) z.1 z.2) ∧ Cls (F (arena s.heap.size OA' (L ++ rowsL q' rs'))) S w' := by
 have ha : arena s.heap.size OA L ∈ H := List.mem_of_getElem? hh.eq.1
 have hr64 := hin.r64
 refine (mnarrow_calls s q cap at_ many rs f first caps is w (Cls.old hw hs hno) (by omega) hmany (hin.rsl.slAt hw hs ha hno) (fun r hr => (InB.row hin hw hs ha hno hr).1) (fun r hr => by rw [(InB.row hin hw hs ha hno hr).2]; exact hat) hf hp).mono ?_
 rintro e w3 ⟨q', c', rs', h1, h2, h3, h4, h5, h6⟩
 refine ⟨q', c', rs', _, h1, h2, Seen.fr h4 (fun x hx => List.mem_append_right _ (List.mem_append_left _ hx)), fun r hr => ⟨Seen.fr (h5 r hr).1 (fun x hx => List.mem_append_right _ (List.mem_append_right _ (List.mem_flatMap.2 ⟨r, hr, hx⟩))), (h5 r hr).2⟩, Cls.arena_more hh hw (hw.kp s hs).size h6 _ (rowsL_fr h4 (fun r hr => (h5 r hr).1))⟩
theorem below_in (D : List Da) (s : World) (S : List World) (H : List Eng.Item) (F : Eng.Item → List Eng.Item) (n : Nat) (OA : Nat → Prop) (L : List (Addr × List Value)) (q qp : Option Addr) (capp at_ many fu : Nat) (rs : List RowE) (ps : List PathE) (w : World) (hs : s ∈ S) (hh : Hole n H (arena s.heap.size OA L) F) (hno : ∀ k, k < s.heap.size → NotOwned H k) (hin : InB D s L q qp capp rs ps fu) (hat : at_ < ps.length) (hmany : many ≤ 100000) (hw : Cls H S w) :
  Calls Try.prog 55 [.slice qp ps.length capp, .int .i64 (at_ : Int), .int .i64 (many : Int)].toArray w fun e w' => ∃ (q' : Option Addr) (c' : Nat) (ps' : List PathE) (OA' : Nat → Prop) (L2 : List (Addr × List Value)), e = .returned (.slice q' ps'.length c') ∧ ps'.map Prod.fst = belowM (ps.map Prod.fst) at_ many ∧ ps'.length ≤ c' ∧ Seen s (L ++ L2) q' (cat pthC ps') ∧ (∀ p ∈ ps', Seen s (L ++ L2) p.2.1 (intV p.1)) ∧ Cls (F (arena s.heap.size OA' (L ++ L2))) S w' := by
 have ha : arena s.heap.size OA L ∈ H := List.mem_of_getElem? hh.eq.1
 have hcl := hin.cols
 refine (below_calls qp capp at_ many ps w (by omega) hin.pcap hmany (hin.psl.slAt hw hs ha hno) (fun p hp => ⟨(hin.pel p hp).1.slAt hw hs ha hno, (hin.pel p hp).2.1, by have := (hin.pel p hp).2.2; omega⟩) hat).mono ?_
 rintro e w3 ⟨q', c', ps', h1, h2, h3, h4, h5, h6⟩
 obtain ⟨L2, k1, k2, k3⟩ := pathsN (s := s) (L := L) (fun p hp => (hin.pel p hp).1) h4 h5
 exact ⟨q', c', ps', _, L2, h1, h2, h3, k2, k3, Cls.arena_more hh hw (hw.kp s hs).size h6 L2 k1⟩
theorem other1_calls (z : Ty × PY) (w : World) : Calls Try.prog 85 [.agg (tyc z.1 z.2).toArray].toArray w fun e w' => e = .returned (.bool false) ∧ Ext w w' := by
 refine enter Try.func85 rfl Try.ntmps85 rfl (Cls.start w) ?_
 (simp only [argEnv, Nat.zero_add, Nat.reduceAdd])
 simp only [tyc]
 apply W.sr
 apply OL.box; rfl; rfl; exact CellsL.agg; (intro bk hbk; simp only [AllLe, and_true] at hbk)
 apply oas; rfl; rfl
 apply OL.nsr
 apply oas; rfl; rfl
 apply OL.nx
 apply W.ret
 ((with_reducible apply At.fin1); rfl; rfl; intro w' hw')
 exact ⟨rfl, by (exact hw'.fr)⟩
theorem other_of (D : List Da) (s : World) (bm f : Nat) (hB : BuildC D s bm f) (S : List World) (X : Eng.Item) (bb : Nat) (g : BG) (q qp : Option Addr) (cap capp d b at_ : Nat) (rs : List RowE) (ps : List PathE) (w : World) (hs : s ∈ S) (hbb : s.heap.size ≤ bb) (hX : ∀ k, X.own k → s.heap.size ≤ k) (hg : ∀ z ∈ g.outs, NdSeen s g.L z) (hin : InB D s g.L q qp capp rs ps (f + 1)) (hat : at_ < ps.length) (hr0 : ∃ r ∈ rs.map rowP, ∃ p, r.2[at_]? = some p ∧ free p = false) (hmo : Mo d b g.st) (hb1 : 4097 + 400 * f ≤ b) (hb2 : b ≤ 1000000) (hw : Cls (bI s.heap.size bb bm g X) S w) :
  Calls Try.prog 56 [.pointer (some ⟨bb, 0, none⟩), .slice q rs.length cap, .slice qp ps.length capp, .int .i64 (at_ : Int)].toArray w fun e w' => ∃ g' : BG, e = .returned (.int .i64 (otherM (buildE D f) g.st (rs.map rowP) (ps.map Prod.fst) at_).2) ∧ g'.st = (otherM (buildE D f) g.st (rs.map rowP) (ps.map Prod.fst) at_).1 ∧ (∀ x ∈ g.L, x ∈ g'.L) ∧ (∀ z ∈ g'.outs, NdSeen s g'.L z) ∧ Mo d (b + 1) g'.st ∧ Cls (bI s.heap.size bb bm g' X) S w' := by
 refine enter Try.func56 rfl Try.ntmps56 rfl hw ?_
 (simp only [argEnv, Nat.zero_add, Nat.reduceAdd])
 unfold bI
 apply W.sr
 apply oas; rfl; rfl
 apply OL.nsr
 apply omv; rfl; rfl
 apply omv; rfl; rfl
 apply omv; rfl; rfl
 have hno := fun (OA : Nat → Prop) (L : List (Addr × List Value)) => bI_no (g := ⟨g.many, g.full, g.outs, g.O, g.q, g.c, OA, L⟩) (bm := bm) hbb hX
 unfold bI at hno
 simp only at hno
 refine OL.callE (α := (Option Addr × Nat × List RowE) × (Nat → Prop)) (fun y => .slice y.1.1 y.1.2.2.length y.1.2.1) (fun y => y.1.2.2.map rowP = narrowM at_ (fun _ => false) 0 (rs.map rowP) ∧ Seen s (g.L ++ rowsL y.1.1 y.1.2.2) y.1.1 (cat rowC y.1.2.2) ∧ ∀ r ∈ y.1.2.2, Seen s (g.L ++ rowsL y.1.1 y.1.2.2) r.2.2.1 (cat tyR.c r.2.1) ∧ r.2.1.length ≤ r.2.2.2 ∧ ∀ z ∈ r.2.1, TyO s (low s) z.1 z.2) (fun y => Cls [blk bb 68 [.map (some bm), .slice g.q g.outs.length g.c, .int .i64 (g.many : Int), .bool g.full], row s.heap.size g.O g.q g.outs.length g.c 77 6 (cat ndC g.outs), arena s.heap.size y.2 (g.L ++ rowsL y.1.1 y.1.2.2), X] S) rfl rfl (by exact Args.au) (fun w2 hw2 => ?_) ?_
 ·have hc := narrow_in D s S _ _ 2 g.OA g.L q qp cap capp at_ 0 (f + 1) rs ps 85 [] [] (fun _ => false) w2 hs (.s (.s .z)) (hno g.OA g.L) hin hat (Nat.zero_le _) rfl (fun z w' _ => other1_calls z w') hw2
  refine hc.mono ?_
  rintro e w3 ⟨q2, c2, rs2, OA2, k1, k2, k3, k4, k5⟩
  exact ⟨((q2, c2, rs2), OA2), k1, ⟨k2, k3, k4⟩, k5⟩
 rintro ⟨⟨q2, c2, rs2⟩, OA2⟩ ⟨hr2, hrs2, hre2⟩
 simp only at hr2 hrs2 hre2 ⊢
 have hin2 := hin.mono (L' := g.L ++ rowsL q2 rs2) (fun x hx => List.mem_append_left _ hx)
 apply omv; rfl; rfl
 apply omv; rfl; rfl
 refine OL.callE (α := (Option Addr × Nat × List PathE) × (Nat → Prop) × List (Addr × List Value)) (fun y => .slice y.1.1 y.1.2.2.length y.1.2.1) (fun y => y.1.2.2.map Prod.fst = belowM (ps.map Prod.fst) at_ 0 ∧ y.1.2.2.length ≤ y.1.2.1 ∧ Seen s (g.L ++ rowsL q2 rs2 ++ y.2.2) y.1.1 (cat pthC y.1.2.2) ∧ ∀ p ∈ y.1.2.2, Seen s (g.L ++ rowsL q2 rs2 ++ y.2.2) p.2.1 (intV p.1)) (fun y => Cls [blk bb 68 [.map (some bm), .slice g.q g.outs.length g.c, .int .i64 (g.many : Int), .bool g.full], row s.heap.size g.O g.q g.outs.length g.c 77 6 (cat ndC g.outs), arena s.heap.size y.2.1 (g.L ++ rowsL q2 rs2 ++ y.2.2), X] S) rfl rfl (by exact Args.au) (fun w2 hw2 => ?_) ?_
 ·have hc := below_in D s S _ _ 2 OA2 (g.L ++ rowsL q2 rs2) q qp capp at_ 0 (f + 1) rs ps w2 hs (.s (.s .z)) (hno OA2 (g.L ++ rowsL q2 rs2)) hin2 hat (Nat.zero_le _) hw2
  refine hc.mono ?_
  rintro e w3 ⟨q3, c3, ps3, OA3, L3, k1, k2, k3, k4, k5, k6⟩
  exact ⟨((q3, c3, ps3), OA3, L3), k1, ⟨k2, k3, k4, k5⟩, k6⟩
 rintro ⟨⟨q3, c3, ps3⟩, OA3, L3⟩ ⟨hp3, hpc3, hps3, hpe3⟩
 simp only at hp3 hpc3 hps3 hpe3 ⊢
 have hLL : ∀ x ∈ g.L, x ∈ g.L ++ rowsL q2 rs2 ++ L3 := fun x hx => List.mem_append_left _ (List.mem_append_left _ hx)
 have hin3 : InB D s (g.L ++ rowsL q2 rs2 ++ L3) q2 q3 c3 rs2 ps3 f := hin.below (nm := ⟨#[]⟩) (is := fun _ => false) (many := 0) hat (by
  obtain ⟨r, h1, p, h2, h3⟩ := hr0
  refine ⟨r, h1, p, h2, ?_⟩
  have h4 := wt_eq p
  rw [if_neg (by rw [h3]; decide)] at h4
  by_cases hk : p.kind = 3
  ·rw [show fieldsOf p 0 = p.args by unfold fieldsOf; rw [if_pos ⟨h3, hk⟩]]
   omega
  ·rw [show fieldsOf p 0 = [] by unfold fieldsOf; rw [if_neg (fun h => hk h.2)]; rfl]
   simp only [wtA]
   omega) (fun r _ p _ _ h => by cases h) (fun h => by omega) hr2 hp3 (hrs2.mono (fun x hx => List.mem_append_left _ hx)) (fun r hr => ⟨(hre2 r hr).1.mono (fun x hx => List.mem_append_left _ hx), (hre2 r hr).2⟩) hps3 hpc3 hpe3
 have hres : otherM (buildE D f) g.st (rs.map rowP) (ps.map Prod.fst) at_ = buildE D f g.st (rs2.map rowP) (ps3.map Prod.fst) := by
  unfold otherM
  rw [hr2, hp3]
 rw [hres]
 skip
 refine OL.callE (α := BG) (fun y => .int .i64 (buildE D f g.st (rs2.map rowP) (ps3.map Prod.fst)).2) (fun y => y.st = (buildE D f g.st (rs2.map rowP) (ps3.map Prod.fst)).1 ∧ (∀ x ∈ g.L, x ∈ y.L) ∧ (∀ z ∈ y.outs, NdSeen s y.L z) ∧ Mo d (b + 1) y.st) (fun y => Cls (bI s.heap.size bb bm y X) S) rfl rfl (by exact Args.au) (fun w2 hw2 => ?_) ?_
 ·have hc := hB S X bb ⟨g.many, g.full, g.outs, g.O, g.q, g.c, OA3, g.L ++ rowsL q2 rs2 ++ L3⟩ q2 q3 c2 c3 d b rs2 ps3 w2 hs hbb hX (fun z hz => (hg z hz).mono hLL) hin3 hmo hb1 hb2 hw2
  refine hc.mono ?_
  rintro e w3 ⟨g', k1, k2, k3, k4, k5, k6⟩
  exact ⟨g', k1, ⟨k2, fun x hx => k3 x (hLL x hx), k4, k5⟩, k6⟩
 rintro g' ⟨hst, hL, hg', hmo'⟩
 apply oas; rfl; rfl
 apply OL.nx
 apply W.ret
 ((with_reducible apply At.fin1); rfl; rfl; intro w' hw')
 exact ⟨g', rfl, hst, hL, hg', hmo', hw'⟩
end Go.Proofs.Ytleggdmhihcafaa.pt

/- The walk of the builder's words. Conditions: none. -/
namespace Go.Eng
open Go.RowKit
theorem Cls.pack {S : List World} {w : World} {B : Nat} {Ls : List Item} {a b c X : Item} (h : Cls (Ls ++ [a, b, c, X]) S w) (hno : ∀ k, k < B → NotOwned (Ls ++ [a, b, c, X]) k) : Cls [a, b, c, bag B (Ls ++ [X])] S w := by
 have h1 : Cls ((Ls ++ [X]) ++ [a, b, c]) S w := h.perm (by
  rw [List.append_assoc]
  exact List.Perm.append_left _ (List.perm_append_comm (l₁ := [a, b, c]) (l₂ := [X])))
 have h2 := Cls.bag_all (B := B) h1 (fun i hi k hk => Nat.le_of_not_lt fun hlt => (hno k hlt).not ⟨i, by
  rcases List.mem_append.1 hi with hi | hi
  ·exact List.mem_append_left _ hi
  ·rw [List.mem_singleton] at hi
   rw [hi]
   simp, hk⟩)
 exact h2.perm (List.perm_append_comm (l₁ := [_]) (l₂ := [a, b, c]))
theorem Cls.unpack {S : List World} {w : World} {B : Nat} {Ls : List Item} {a b c X : Item} (h : Cls [a, b, c, bag B (Ls ++ [X])] S w) : Cls (Ls ++ [a, b, c, X]) S w := by
 have h1 : Cls (bag B (Ls ++ [X]) :: [a, b, c]) S w := h.perm (List.perm_append_comm (l₁ := [a, b, c]) (l₂ := [_]))
 have h2 := Cls.bag_open h1
 refine h2.perm ?_
 rw [List.append_assoc]
 exact List.Perm.append_left _ (List.perm_append_comm (l₁ := [X]) (l₂ := [a, b, c]))
theorem Cls.rows2 {S : List World} {w : World} {B m1 c1 z1 m2 c2 z2 : Nat} {O1 O2 OA : Nat → Prop} {q1 q2 : Option Addr} {e1 e2 : TypeId} {x1 x2 : List Value} {L : List (Addr × List Value)} {a b X : Item} (h : Cls [row B O1 q1 m1 c1 e1 z1 x1, row B O2 q2 m2 c2 e2 z2 x2, a, b, arena B OA L, X] S w) :
  Cls [a, b, arena B (fun k => (OA k ∨ (row B O1 q1 m1 c1 e1 z1 x1).own k) ∨ (row B O2 q2 m2 c2 e2 z2 x2).own k) ((L ++ slL q1 x1) ++ slL q2 x2), X] S w := by
 have h1 := (h.perm (List.Perm.cons _ (List.perm_middle (l₁ := [_, a, b]) (l₂ := [X])))).arena_row
 have h2 := (h1.perm (List.Perm.swap _ _ _)).arena_row
 exact h2.perm (List.perm_middle (l₁ := [a, b]) (l₂ := [X])).symm
theorem Hole.app {i : Item} {H : List Item} {p : Nat} {F : Item → List Item} (h : Hole p H i F) : ∀ Ls : List Item, ∃ p', Hole p' (Ls ++ H) i (fun x => Ls ++ F x)
 | [] => ⟨p, h⟩
 | j :: Ls => by
  obtain ⟨p', h'⟩ := Hole.app h Ls
  exact ⟨p' + 1, .s h'⟩
theorem Seen.elem {α : Type} {f : α → List Value} {sz : Nat} (hf : ∀ x, (f x).length = sz) (hsz : 0 < sz) {s : World} {L : List (Addr × List Value)} {q : Option Addr} {l : List α} (h : Seen s L q (cat f l)) {i : Nat} {x : α} (hx : l[i]? = some x) :
  ∃ a, q = some a ∧ ∀ (H : List Item) (S : List World) (w : World) (O : Nat → Prop), Cls H S w → s ∈ S → arena s.heap.size O L ∈ H → (∀ k, k < s.heap.size → NotOwned H k) → CellsAt w (a.add (i * sz)) (f x) := by
 have hl := (List.getElem?_eq_some_iff.1 hx).1
 have hpos : 0 < (cat f l).length := by
  rw [cat_length hf]
  exact Nat.mul_pos (by omega) hsz
 obtain ⟨a, h1, _⟩ := h hpos
 refine ⟨a, h1, fun H S w O hw hs ha hno => ?_⟩
 obtain ⟨a2, x2, h2, _, h3, h4⟩ := (h.slAt hw hs ha hno).elem hf hsz hl
 rw [h1] at h2
 obtain rfl := Option.some.inj h2
 rw [hx] at h3
 obtain rfl := Option.some.inj h3
 exact h4
end Go.Eng
namespace Go.Pt
open Go.Eng Go.RowKit
structure GWs where
 g : BG
 Ow : Nat → Prop
 qw : Option Addr
 cw : Nat
 ws : List Int
 Ok : Nat → Prop
 qk : Option Addr
 ck : Nat
 ks : List Int
theorem InB.plen {D : List Da} {s : World} {L : List (Addr × List Value)} {q qp : Option Addr} {capp : Nat} {rs : List RowE} {ps : List PathE} {f : Nat} (h : InB D s L q qp capp rs ps f) {r : RowE} (hr : r ∈ rs) : r.2.1.length = ps.length := by
 have hl := h.mat.len _ (List.mem_map_of_mem (f := Prod.snd) (List.mem_map_of_mem (f := rowP) hr))
 simpa [rowP] using hl
end Go.Pt
namespace Go.Proofs.Ytleggdmhihcafaa.pt
open Go.RowKit Go.Eng Go.Pt
set_option maxRecDepth 100000
theorem MIndex_calls (q : Option Addr) (cap : Nat) (l : List Int) (s : Int) (w : World) (hlen : l.length ≤ 9223372036854775807) (h : IntsO w (low w) l q) :
  Calls Try.prog 31 #[.slice q l.length cap, .int .i64 s] w fun e w' => e = .returned (.int .i64 (idxP (fun x => decide (x = s)) l 0)) ∧ Ext w w' := by
 refine enter Try.func31 rfl Try.ntmps31 rfl (Cls.start w) ?_
 (simp only [argEnv, Nat.zero_add, Nat.reduceAdd])
 apply W.sr
 apply oas; rfl; rfl
 apply OL.nx
 apply W.seq
 apply W.sr
 apply omv; rfl; rfl
 apply oop; rfl; apply Pev.len_slice; rfl; exact yes; rfl
 apply omv; rfl; rfl
 apply OL.nx
 apply W.block
 refine W.loop (G := Nat) (fun i => i ≤ l.length ∧ idxP (fun x => decide (x = s)) (l.drop i) i = idxP (fun x => decide (x = s)) l 0) (fun i => l.length - i)
  (fun i => [(8, true, .int .i64 (i : Int)), (7, true, .int .i64 (l.length : Int)), (0, true, .slice q l.length cap), (1, true, .int .i64 s)])
  (fun i => Cls [] [w]) 0 ⟨by omega, rfl⟩ (by exact Sub.au) (fun w' hw' => hw') ?_
 rintro i ⟨hi, hrest⟩
 apply W.sr
 apply obn; rfl; rfl; rfl; apply Bin.lss
 apply OL.nx
 apply W.seq
 (refine W.cnd (fun hlt => ?_) (fun hlt => ?_)) <;> (try (exfalso; first | omega | exact hlt trivial | contradiction))
 ·obtain ⟨a, u, rfl, hab, hu, hcell⟩ := h.get (show i < l.length by omega)
  have hab : a.block < w.heap.size := hab
  rw [idxP_get hu] at hrest
  apply W.sk
  apply W.sb
  apply W.sr
  apply omv; rfl; rfl
  apply oas; rfl; rfl
  apply OL.nsr
  apply omv; rfl; rfl
  apply omv; rfl; rfl
  apply omv; rfl; rfl
  apply oop; rfl; apply Pev.idx; rfl; exact yes; rfl; exact yes; rfl; rfl; intro hcond; omega
  apply oop; rfl; apply Pev.load_kept; rfl; exact yes; exact .head _; rfl; intro hcond; assumption; intro hcond; (rw [add_block]; assumption); intro hcond; exact NotOwned.au
  apply obn; rfl; rfl; rfl; apply Bin.eql
  apply OL.nx
  by_cases heq : u = s
  ·have hd : decide (s = u) = true := decide_eq_true heq.symm
   rw [if_pos (decide_eq_true heq)] at hrest
   rw [hd]
   refine W.cond rfl (fun _ => ?_) (fun hb => by cases hb)
   apply W.sr
   apply omv; rfl; rfl
   apply oas; rfl; rfl
   apply OL.nx
   refine W.rt ?_
   ((with_reducible apply At.fin1); rfl; rfl; intro w' hw')
   exact ⟨by rw [hrest], by (exact hw'.fr)⟩
  ·have hd : decide (s = u) = false := decide_eq_false (fun e => heq e.symm)
   rw [if_neg (by simpa using heq)] at hrest
   rw [hd]
   refine W.cond rfl (fun hb => by cases hb) (fun _ => ?_)
   apply W.skip
   with_reducible apply At.in_normal
   with_reducible apply At.next
   apply W.reg
   apply obn; rfl; rfl; rfl; apply Bin.add_in; omega
   apply omv; rfl; rfl
   apply OL.nil
   exact At.again (i + 1) ⟨by omega, hrest⟩ (by omega) (by exact Sub.au) (fun w' hw' => hw')
 ·refine W.xt ?_
  with_reducible apply At.next
  apply W.sr
  apply oas; rfl; rfl
  apply OL.nx
  apply W.ret
  ((with_reducible apply At.fin1); rfl; rfl; intro w' hw')
  rw [idxP_end (by omega)] at hrest
  exact ⟨by rw [hrest], by (exact hw'.fr)⟩
theorem MContains_calls (q : Option Addr) (cap : Nat) (l : List Int) (s : Int) (w : World) (hlen : l.length ≤ 9223372036854775807) (h : IntsO w (low w) l q) :
  Calls Try.prog 81 #[.slice q l.length cap, .int .i64 s] w fun e w' => e = .returned (.bool (decide (s ∈ l))) ∧ Ext w w' := by
 refine enter Try.func81 rfl Try.ntmps81 rfl (Cls.start w) ?_
 (simp only [argEnv, Nat.zero_add, Nat.reduceAdd])
 apply W.sr
 apply oas; rfl; rfl
 apply OL.nsr
 apply omv; rfl; rfl
 apply omv; rfl; rfl
 (((first | (with_reducible apply OL.op) | (with_reducible apply QL.op)); (exact Guard.au); rfl; rfl); (exact Pev.call rfl (by exact Args.au) (fun _ w2 hw2 => (MIndex_calls q cap l s w2 hlen (h.at hw2 (by exact mau) (fun k hk => by exact NotOwned.au))).mono (fun e w3 h => ⟨h.1, hw2.ext h.2⟩))))
 apply obn; rfl; rfl; rfl; apply Bin.geq
 apply oas; rfl; rfl
 apply OL.nx
 apply W.ret
 ((with_reducible apply At.fin1); rfl; rfl; intro w' hw')
 exact ⟨by
  rw [idxP_nonneg]
  congr 2
  rw [Bool.eq_iff_iff, List.any_eq_true, decide_eq_true_eq]
  exact ⟨fun ⟨x, h1, h2⟩ => by rw [← of_decide_eq_true h2]; exact h1, fun h => ⟨s, h, decide_eq_true rfl⟩⟩, by (exact hw'.fr)⟩
theorem words1_calls (z : Ty × PY) (bp : Nat) (n : Int) (w : World) (hc : w.cell? ⟨bp, 0 + 2, none⟩ = some (.int .i64 n)) (hb : bp < w.heap.size) : Calls Try.prog 82 [.agg (tyc z.1 z.2).toArray, .pointer (some ⟨bp, 0, none⟩)].toArray w fun e w' => e = .returned (.bool (isW n z.1)) ∧ Ext w w' := by
 refine enter Try.func82 rfl Try.ntmps82 rfl (Cls.start w) ?_
 (simp only [argEnv, Nat.zero_add, Nat.reduceAdd])
 simp only [tyc]
 apply W.sr
 apply OL.box; rfl; rfl; exact CellsL.agg; (intro bk hbk; simp only [AllLe, and_true] at hbk)
 apply oas; rfl; rfl
 apply OL.nsr
 apply ofa; rfl; rfl; rfl
 apply old; rfl; rfl; exact .head _; rfl; rfl
 apply ofa; rfl; rfl; rfl
 apply oop; rfl; apply Pev.load_kept; rfl; exact yes; exact .head _; rfl; intro hcond; assumption; intro hcond; assumption; intro hcond; exact NotOwned.au
 apply obn; rfl; rfl; rfl; apply Bin.eql
 apply oas; rfl; rfl
 apply OL.nx
 apply W.ret
 ((with_reducible apply At.fin1); rfl; rfl; intro w' hw')
 exact ⟨rfl, by (exact hw'.fr)⟩
theorem words_of (D : List Da) (s : World) (bm f : Nat) (hB : BuildC D s bm f) (S : List World) (X : Eng.Item) (bb : Nat) (g : BG) (q qp : Option Addr) (cap capp d b at_ : Nat) (rs : List RowE) (ps : List PathE) (w : World) (hs : s ∈ S) (hbb : s.heap.size ≤ bb) (hX : ∀ k, X.own k → s.heap.size ≤ k) (hg : ∀ z ∈ g.outs, NdSeen s g.L z) (hin : InB D s g.L q qp capp rs ps (f + 1)) (hat : at_ < ps.length) (hr0 : ∃ r ∈ rs.map rowP, ∃ p, r.2[at_]? = some p ∧ free p = false) (hk2 : ∀ r ∈ rs.map rowP, ∀ p, r.2[at_]? = some p → free p = false → p.kind = 2) (hmo : Mo (d + 1) b g.st) (hb0 : (g.st.full = false ∧ g.st.many ≤ 4096)) (hb1 : 4497 + 400 * f ≤ b) (hb2 : b ≤ 1000000) (hw : Cls (bI s.heap.size bb bm g X) S w) :
  Calls Try.prog 50 [.pointer (some ⟨bb, 0, none⟩), .slice q rs.length cap, .slice qp ps.length capp, .int .i64 (at_ : Int)].toArray w fun e w' => ∃ g' : BG, e = .returned (.int .i64 (wordsE (buildE D f) g.st (rs.map rowP) (ps.map Prod.fst) at_).2) ∧ g'.st = (wordsE (buildE D f) g.st (rs.map rowP) (ps.map Prod.fst) at_).1 ∧ (∀ x ∈ g.L, x ∈ g'.L) ∧ (∀ z ∈ g'.outs, NdSeen s g'.L z) ∧ Mo d b g'.st ∧ Cls (bI s.heap.size bb bm g' X) S w' := by
 refine enter Try.func50 rfl Try.ntmps50 rfl hw ?_
 have hbs : ∃ s' ∈ S, s.heap.size ≤ s'.heap.size := ⟨s, hs, Nat.le_refl _⟩
 have hnoI : ∀ gB : BG, ∀ k, k < s.heap.size → NotOwned (bI s.heap.size bb bm gB X) k := fun gB => bI_no hbb hX
 obtain ⟨p, hpi⟩ : ∃ p, ps[at_]? = some p := ⟨_, List.getElem?_eq_getElem hat⟩
 have hpm := List.mem_of_getElem? hpi
 obtain ⟨hpsn, hpp0, hppl⟩ := hin.pel p hpm
 obtain ⟨ap, hqp, hpcell⟩ := hin.psl.elem pthC_len (by decide) hpi
 have hgp : (ps.map Prod.fst).getD at_ [] = p.1 := by rw [List.getD_eq_getElem?_getD, List.getElem?_map, hpi]; rfl
 (simp only [argEnv, Nat.zero_add, Nat.reduceAdd])
 rw [hqp]
 unfold bI
 apply W.sr
 apply oas; rfl; rfl
 apply OL.nsr
 apply omv; rfl; rfl
 apply omv; rfl; rfl
 apply oop; rfl; apply Pev.idx; rfl; exact yes; rfl; exact yes; rfl; rfl; intro hcond; omega
 (((first | (with_reducible apply OL.op) | (with_reducible apply QL.op)); (exact Guard.au); rfl; rfl); (refine Pev.load_cls (v := .slice p.2.1 p.1.length p.2.2) rfl (by (first | exact fun _ => rfl | exact fun h => h | (intro h; simp_all; done))) rfl (fun _ w2 hw2 => hpcell _ S w2 g.OA hw2 hs (.tail _ (.tail _ (.head _))) (hnoI g) 0 _ rfl)))
 apply oop; rfl; apply Pev.build; rfl; exact CellsL.agg; rfl; exact Fill.au; rfl
 apply OL.alloc; rfl; rfl; exact CellsL.agg; intro bk hbk
 apply OL.storeB; rfl; rfl; exact CellsL.agg; rfl; rfl; rfl; exact Swap.au; exact Put.au
 apply OL.nx
 apply W.seq
 apply W.sr
 apply omv; rfl; rfl
 apply oop; rfl; apply Pev.len_slice; rfl; exact yes; rfl
 apply omv; rfl; rfl
 apply OL.nx
 apply W.block
 revert bk
 intro b9 hb9
 obtain ⟨WL, hWL⟩ : ∃ WL, wordsL (buildE D f) (rs.map rowP) (ps.map Prod.fst) at_ (rs.map rowP) g.st [] [] = WL := ⟨_, rfl⟩
 have hr64 := hin.r64
 have hal9 := AllLe.mem hb9 s hs
 refine W.loop (G := Nat × GWs) (fun y => y.1 ≤ rs.length ∧ wordsL (buildE D f) (rs.map rowP) (ps.map Prod.fst) at_ ((rs.drop y.1).map rowP) y.2.g.st y.2.ws y.2.ks = WL ∧ (∀ x ∈ g.L, x ∈ y.2.g.L) ∧ (∀ z ∈ y.2.g.outs, NdSeen s y.2.g.L z) ∧ Mo (d + 1) (4097 + 400 * f + y.1) y.2.g.st ∧ y.2.ws.length ≤ y.1 ∧ y.2.ks.length = y.2.ws.length) (fun y => rs.length - y.1)
  (fun y => [(0, true, .pointer (some ⟨bb, 0, none⟩)), (1, true, .slice q rs.length cap), (2, true, .slice (some ap) ps.length capp), (3, true, .int .i64 (at_ : Int)), (9, true, .pointer (some ⟨b9, 0, none⟩)), (19, true, .slice q rs.length cap), (20, true, .int .i64 (rs.length : Int)), (21, true, .int .i64 (y.1 : Int))])
  (fun y => Cls [blk b9 77 [.int .i64 3, .int .i64 0, .slice p.2.1 p.1.length p.2.2, .slice none 0 0, .slice y.2.qw y.2.ws.length y.2.cw, .slice y.2.qk y.2.ks.length y.2.ck], row s.heap.size y.2.Ow y.2.qw y.2.ws.length y.2.cw 3 1 (intV y.2.ws), row s.heap.size y.2.Ok y.2.qk y.2.ks.length y.2.ck 3 1 (intV y.2.ks), blk bb 68 [.map (some bm), .slice y.2.g.q y.2.g.outs.length y.2.g.c, .int .i64 (y.2.g.many : Int), .bool y.2.g.full], row s.heap.size y.2.g.O y.2.g.q y.2.g.outs.length y.2.g.c 77 6 (cat ndC y.2.g.outs), arena s.heap.size y.2.g.OA y.2.g.L, X] S)
  (0, ⟨g, fun _ => False, none, 0, [], fun _ => False, none, 0, []⟩) ⟨Nat.zero_le _, hWL, fun x hx => hx, hg, ⟨hmo.out, .inl hb0⟩, Nat.le_refl _, rfl⟩ (by exact Sub.au) (fun w' hw' => ?_) ?_
 ·exact ((hw'.row_nil s.heap.size 3 1).row_nil s.heap.size 3 1).perm (List.perm_middle (l₁ := [_, _]))
 rintro ⟨i, ⟨gB, Ow, qw, cw, ws, Ok, qk, ck, ks⟩⟩ ⟨hi, hrest, hL1, hg1, hmo1, hwl, hkl⟩
 simp only at hi hrest hL1 hg1 hmo1 hwl hkl ⊢
 have hin1 := hin.mono hL1
 apply W.sr
 apply obn; rfl; rfl; rfl; apply Bin.lss
 apply OL.nx
 apply W.seq
 (refine W.cnd (fun hlt => ?_) (fun hlt => ?_)) <;> (try (exfalso; first | omega | exact hlt trivial | contradiction))
 ·obtain ⟨r, hri⟩ : ∃ r, rs[i]? = some r := ⟨_, List.getElem?_eq_getElem (by omega)⟩
  have hrm := List.mem_of_getElem? hri
  obtain ⟨hrs1, hrc1, hre1⟩ := hin1.rel r hrm
  have hrl := hin1.plen hrm
  obtain ⟨z, hzi⟩ : ∃ z, r.2.1[at_]? = some z := ⟨_, List.getElem?_eq_getElem (by omega)⟩
  have hzP : (rowP r).2[at_]? = some z.1 := by
   show (r.2.1.map Prod.fst)[at_]? = _
   rw [List.getElem?_map, hzi]
   rfl
  obtain ⟨ar, hqr, hrcell⟩ := hin1.rsl.elem rowC_len (by decide) hri
  obtain ⟨az, hqz, hzcell⟩ := hrs1.elem tyR.clen (by decide) hzi
  have hdr : (rs.drop i).map rowP = rowP r :: (rs.drop (i + 1)).map rowP := by
   have hl : i < rs.length := by omega
   rw [List.drop_eq_getElem_cons hl]
   rw [List.getElem?_eq_getElem hl] at hri
   rw [Option.some.inj hri]
   rfl
  rw [hdr, wordsL, hzP] at hrest
  simp only at hrest
  rw [hqr]
  have hno1 : ∀ k, k < s.heap.size → NotOwned [blk b9 77 [.int .i64 3, .int .i64 0, .slice p.2.1 p.1.length p.2.2, .slice none 0 0, .slice qw ws.length cw, .slice qk ks.length ck], row s.heap.size Ow qw ws.length cw 3 1 (intV ws), row s.heap.size Ok qk ks.length ck 3 1 (intV ks), blk bb 68 [.map (some bm), .slice gB.q gB.outs.length gB.c, .int .i64 (gB.many : Int), .bool gB.full], row s.heap.size gB.O gB.q gB.outs.length gB.c 77 6 (cat ndC gB.outs), arena s.heap.size gB.OA gB.L, X] k := fun k hk => NotOwned.blk (by omega) (NotOwned.row (by omega) (NotOwned.row (by omega) (hnoI gB k hk)))
  apply W.sk
  apply W.sb
  apply W.sr
  apply oop; rfl; apply Pev.idx; rfl; exact yes; rfl; exact yes; rfl; rfl; intro hcond; omega
  (((first | (with_reducible apply OL.op) | (with_reducible apply QL.op)); (exact Guard.au); rfl; rfl); (refine Pev.load_clsA (vs := [.int .i64 r.1, .slice (some az) r.2.1.length r.2.2.2]) rfl (by (first | exact fun _ => rfl | exact fun h => h | (intro h; simp_all; done))) rfl rfl (fun _ w2 hw2 => ?_)))
  ·have h1 := hrcell _ S w2 gB.OA hw2 hs (by exact mau) hno1
   unfold rowC at h1
   rw [hqz] at h1
   exact h1
  apply OL.alloc; rfl; rfl; exact CellsL.agg; intro bk hbk
  apply OL.storeB; rfl; rfl; exact CellsL.agg; rfl; rfl; rfl; exact Swap.au; exact Put.au
  apply OL.nsr
  apply ofa; rfl; rfl; rfl
  apply old; rfl; rfl; exact .head _; rfl; rfl
  apply omv; rfl; rfl
  apply oop; rfl; apply Pev.idx; rfl; exact yes; rfl; exact yes; rfl; rfl; intro hcond; omega
  revert bk
  intro b11 hb11
  have hal11 := AllLe.mem hb11 s hs
  (((first | (with_reducible apply OL.op) | (with_reducible apply QL.op)); (exact Guard.au); rfl; rfl); (refine Pev.load_clsA (vs := [.int .i64 z.1.kind, .string z.1.name, .int .i64 z.1.var, .slice z.2.1 z.1.args.length z.2.2]) rfl (by (first | exact fun _ => rfl | exact fun h => h | (intro h; simp_all; done))) rfl rfl (fun _ w2 hw2 => ?_)))
  ·exact hzcell _ S w2 gB.OA hw2 hs (by exact mau) (fun k hk => NotOwned.blk (by omega) (hno1 k hk))
  apply OL.alloc; rfl; rfl; exact CellsL.agg; intro bk hbk
  apply OL.storeB; rfl; rfl; exact CellsL.agg; rfl; rfl; rfl; exact Swap.au; exact Put.au
  apply OL.nx
  apply W.seq
  apply W.sr
  apply oop; rfl; apply Pev.load_blkA; rfl; exact yes; exact .head _; rfl; exact Take.au
  revert bk
  intro b12 hb12
  have hal12 := AllLe.mem hb12 s hs
  have hfr : ∀ w2, Calls Try.prog 49 [.agg #[.int .i64 z.1.kind, .string z.1.name, .int .i64 z.1.var, .slice z.2.1 z.1.args.length z.2.2]].toArray w2 fun e w' => e = .returned (.bool (free z.1)) ∧ Ext w2 w' := fun w2 => mfree_calls z.1 z.2 w2
  (((first | (with_reducible apply OL.op) | (with_reducible apply QL.op)); (exact Guard.au); rfl; rfl); (exact Pev.call (v := .bool (free z.1)) rfl (by exact Args.au) (fun _ w2 hw2 => (hfr w2).mono fun e w3 h => ⟨h.1, hw2.ext h.2⟩)))
  apply omv; rfl; rfl
  apply ono; rfl; rfl; rfl; apply Pev.fld; rfl; exact yes; rfl
  apply ono; rfl; rfl; rfl; apply Pev.load_blk; rfl; exact fun h => h; exact .tail _ (.tail _ (.head _)); rfl; rfl
  apply ono; rfl; rfl; rfl; apply Pev.fld; rfl; exact yes; rfl
  apply ono; rfl; rfl; rfl; apply Pev.load_blk; rfl; exact fun h => h; exact .head _; rfl; rfl
  (((first | (with_reducible apply OL.op) | (with_reducible apply QL.op)); (exact Guard.au); rfl; rfl); (refine Pev.call (v := .bool (decide (z.1.var ∈ ws))) rfl (by exact Args.au) (fun _ w2 hw2 => ?_)))
  ·refine (MContains_calls qw cw ws z.1.var w2 (by omega) (fun hl => ?_)).mono fun e w3 h => ⟨h.1, hw2.ext h.2⟩
   obtain ⟨a9, k1, k2, k3⟩ := SlAt.of_row (hw2.item (i := row s.heap.size Ow qw ws.length cw 3 1 (intV ws)) (by exact mau)) (by rw [intV_length]; exact hl)
   exact ⟨a9, k1, k2, k3⟩
  apply oop; rfl; apply Pev.pick_or; rfl; exact yes; rfl; exact fun h => h
  apply OL.nx
  by_cases hsk : (free z.1 || decide (z.1.var ∈ ws)) = true
  ·rw [if_pos hsk] at hrest
   rw [hsk]
   refine W.cond rfl (fun _ => ?_) (fun hb => by cases hb)
   refine W.xt ?_
   with_reducible apply At.next
   apply W.reg
   apply obn; rfl; rfl; rfl; apply Bin.add_in; omega
   apply omv; rfl; rfl
   apply OL.nil
   exact At.again (i + 1, ⟨gB, Ow, qw, cw, ws, Ok, qk, ck, ks⟩) ⟨by simp only; omega, hrest, hL1, hg1, hmo1.le (by simp only; omega), by simp only; omega, hkl⟩ (by simp only; omega) (by exact Sub.au) (fun w' hw' => hw'.thin (.blk hb12 (.blk hb11 Thin.same)))
  have hskf : (free z.1 || decide (z.1.var ∈ ws)) = false := by simpa using hsk
  rw [if_neg hsk] at hrest
  rw [hskf]
  simp only [Bool.or_eq_false_iff, decide_eq_false_iff_not] at hskf
  refine W.cond rfl (fun hb => by cases hb) (fun _ => ?_)
  apply W.sk
  apply W.sr
  apply ofa; rfl; rfl; rfl
  apply old; rfl; rfl; exact .tail _ (.tail _ (.head _)); rfl; rfl
  apply ofa; rfl; rfl; rfl
  apply old; rfl; rfl; exact .head _; rfl; rfl
  apply OL.buildSlice; rfl; rfl; rfl; exact Elems.au; rfl; rfl; intro bk hbk
  apply OL.append; rfl; rfl; rfl; rfl; exact Hole.au; exact .head _; exact Take.au; rfl; rfl; assumption; omega; intro O1 g1 cap1
  apply ofa; rfl; rfl; rfl
  apply OL.storeB; rfl; rfl; exact CellsL.one rfl; rfl; rfl; rfl; exact Swap.au; exact Put.au
  apply OL.nsr
  apply oop; rfl; apply Pev.makeFunc; exact Args.au; exact Args.au
  apply oas; rfl; rfl
  apply OL.nx
  revert bk
  intro b43 hb43
  have e3 : ws.length + 1 = (ws ++ [z.1.var]).length := by simp
  have e4 : intV ws ++ [Value.int .i64 z.1.var] = intV (ws ++ [z.1.var]) := by rw [intV_append]; rfl
  rw [e3, e4]
  obtain ⟨ws2, hws2⟩ : ∃ ws2, ws ++ [z.1.var] = ws2 := ⟨_, rfl⟩
  rw [hws2]
  refine W.regzC (C0 := Cls [blk b9 77 [.int .i64 3, .int .i64 0, .slice p.2.1 p.1.length p.2.2, .slice none 0 0, .slice (some ⟨g1, 0, none⟩) ws2.length cap1, .slice qk ks.length ck]] []) (by (repeat (first | exact ZSplit.nil | apply ZSplit.pure rfl | apply ZSplit.tail))) (by kernel_rfl) (by decide +kernel) (fun w hw => hw.drew) (fun w hw => hw.onlyI (by exact mau)) ?_
  apply ZL.op rfl; exact Guard.none; rfl; rfl; apply Pev.fld; rfl; exact yes; rfl
  apply ZL.ld rfl; exact Guard.none; rfl; rfl; apply Pev.load_blk; rfl; exact yes; exact .head _; rfl; rfl
  apply ZL.op rfl; exact Guard.none; rfl; rfl; apply Pev.move; rfl; exact yes
  apply ZL.op rfl; exact Guard.none; rfl; rfl; apply Pev.move; rfl; exact yes
  apply ZL.op rfl; exact Guard.none; rfl; rfl; apply Pev.move; rfl; exact yes
  apply ZL.op rfl; exact Guard.none; rfl; rfl; apply Pev.move; rfl; exact yes
  apply ZL.op rfl; exact Guard.none; rfl; rfl; apply Pev.move; rfl; exact yes
  apply ZL.op rfl; exact Guard.none; rfl; rfl; apply Pev.move; rfl; exact yes
  apply ZL.nilC
  apply TL.one rfl
  obtain ⟨Ls, hLs⟩ : ∃ Ls : List Eng.Item, Ls = [blk b43 3 [.int .i64 z.1.var], blk b12 50 [.int .i64 z.1.kind, .string z.1.name, .int .i64 z.1.var, .slice z.2.1 z.1.args.length z.2.2], blk b11 72 [.int .i64 r.1, .slice (some az) r.2.1.length r.2.2.2], blk b9 77 [.int .i64 3, .int .i64 0, .slice p.2.1 p.1.length p.2.2, .slice none 0 0, .slice (some ⟨g1, 0, none⟩) ws2.length cap1, .slice qk ks.length ck], row s.heap.size O1 (some ⟨g1, 0, none⟩) ws2.length cap1 3 1 (intV ws2), row s.heap.size Ok qk ks.length ck 3 1 (intV ks)] := ⟨_, rfl⟩
  have hal43 := AllLe.mem hb43 s hs
  have hnoL : ∀ g2 : BG, ∀ k, k < s.heap.size → NotOwned (Ls ++ bI s.heap.size bb bm g2 X) k := fun g2 k hk => by
   rw [hLs]
   exact NotOwned.blk (by omega) (NotOwned.blk (by omega) (NotOwned.blk (by omega) (NotOwned.blk (by omega) (NotOwned.row (by omega) (NotOwned.row (by omega) (hnoI g2 k hk))))))
  refine OL.callE (α := (Option Addr × Nat × List RowE) × (Nat → Prop)) (fun y => .slice y.1.1 y.1.2.2.length y.1.2.1) (fun y => y.1.2.2.map rowP = narrowM at_ (isW z.1.var) 0 (rs.map rowP) ∧ Seen s (gB.L ++ rowsL y.1.1 y.1.2.2) y.1.1 (cat rowC y.1.2.2) ∧ ∀ r ∈ y.1.2.2, Seen s (gB.L ++ rowsL y.1.1 y.1.2.2) r.2.2.1 (cat tyR.c r.2.1) ∧ r.2.1.length ≤ r.2.2.2 ∧ ∀ z ∈ r.2.1, TyO s (low s) z.1 z.2) (fun y => Cls (Ls ++ bI s.heap.size bb bm ⟨gB.many, gB.full, gB.outs, gB.O, gB.q, gB.c, y.2, gB.L ++ rowsL y.1.1 y.1.2.2⟩ X) S) rfl rfl (by exact Args.au) (fun w2 hw2 => ?_) ?_
  ·have hbl := hw2.item (i := blk b12 50 [.int .i64 z.1.kind, .string z.1.name, .int .i64 z.1.var, .slice z.2.1 z.1.args.length z.2.2]) (.tail _ (.head _))
   have hbL := hw2.lt _ (.tail _ (.head _)) b12 rfl
   have hc := narrow_in D s S _ _ 8 gB.OA gB.L q qp cap capp at_ 0 (f + 1) rs ps 82 [] [.pointer (some ⟨b12, 0, none⟩)] (isW z.1.var) w2 hs (.s (.s (.s (.s (.s (.s (.s (.s .z)))))))) (by rw [hLs] at hnoL; exact hnoL gB) hin1 hat (Nat.zero_le _) rfl (fun z2 w' hx => words1_calls z2 b12 z.1.var w' (by
    rw [cell_heap (w := w2) (hx.block b12 hbL id), blk_cell hbl]
    rfl) (Nat.lt_of_lt_of_le hbL hx.size)) hw2
   rw [hqr] at hc
   refine hc.mono ?_
   rintro e w3 ⟨q2, c2, rs2, OA2, k1, k2, k3, k4, k5⟩
   exact ⟨((q2, c2, rs2), OA2), k1, ⟨k2, k3, k4⟩, by rw [hLs]; exact k5⟩
  rintro ⟨⟨q2, c2, rs2⟩, OA2⟩ ⟨hr2, hrs2, hre2⟩
  simp only at hr2 hrs2 hre2 ⊢
  have hin2 := hin1.mono (L' := gB.L ++ rowsL q2 rs2) (fun x hx => List.mem_append_left _ hx)
  apply OL.nil
  refine At.tk (fun w9 hw9 => hw9.onlyI (by rw [hLs]; simp)) ?_
  apply TL.one rfl
  obtain ⟨pH, hH⟩ := Hole.app (i := arena s.heap.size OA2 (gB.L ++ rowsL q2 rs2)) (H := bI s.heap.size bb bm ⟨gB.many, gB.full, gB.outs, gB.O, gB.q, gB.c, OA2, gB.L ++ rowsL q2 rs2⟩ X) (p := 2) (F := fun x => [blk bb 68 [.map (some bm), .slice gB.q gB.outs.length gB.c, .int .i64 (gB.many : Int), .bool gB.full], row s.heap.size gB.O gB.q gB.outs.length gB.c 77 6 (cat ndC gB.outs), x, X]) (.s (.s .z)) Ls
  refine OL.callE (α := (Option Addr × Nat × List PathE) × (Nat → Prop) × List (Addr × List Value)) (fun y => .slice y.1.1 y.1.2.2.length y.1.2.1) (fun y => y.1.2.2.map Prod.fst = belowM (ps.map Prod.fst) at_ 0 ∧ y.1.2.2.length ≤ y.1.2.1 ∧ Seen s (gB.L ++ rowsL q2 rs2 ++ y.2.2) y.1.1 (cat pthC y.1.2.2) ∧ ∀ p ∈ y.1.2.2, Seen s (gB.L ++ rowsL q2 rs2 ++ y.2.2) p.2.1 (intV p.1)) (fun y => Cls (Ls ++ bI s.heap.size bb bm ⟨gB.many, gB.full, gB.outs, gB.O, gB.q, gB.c, y.2.1, gB.L ++ rowsL q2 rs2 ++ y.2.2⟩ X) S) rfl rfl (by exact Args.au) (fun w2 hw2 => ?_) ?_
  ·have hc := below_in D s S _ _ pH OA2 (gB.L ++ rowsL q2 rs2) q qp capp at_ 0 (f + 1) rs ps w2 hs hH (hnoL _) hin2 hat (Nat.zero_le _) hw2
   rw [hqp] at hc
   refine hc.mono ?_
   rintro e w3 ⟨q3, c3, ps3, OA3, L3, k1, k2, k3, k4, k5, k6⟩
   exact ⟨((q3, c3, ps3), OA3, L3), k1, ⟨k2, k3, k4, k5⟩, k6⟩
  rintro ⟨⟨q3, c3, ps3⟩, OA3, L3⟩ ⟨hp3, hpc3, hps3, hpe3⟩
  simp only at hp3 hpc3 hps3 hpe3 ⊢
  apply OL.nil
  refine At.tk (fun w9 hw9 => hw9.onlyI (by rw [hLs]; simp)) ?_
  have hLL : ∀ x ∈ gB.L, x ∈ gB.L ++ rowsL q2 rs2 ++ L3 := fun x hx => List.mem_append_left _ (List.mem_append_left _ hx)
  have hz2 : z.1.kind = 2 := hk2 (rowP r) (List.mem_map_of_mem hrm) z.1 hzP hskf.1
  have hin3 : InB D s (gB.L ++ rowsL q2 rs2 ++ L3) q2 q3 c3 rs2 ps3 f := hin1.below (nm := ⟨#[]⟩) (is := isW z.1.var) (many := 0) hat ⟨rowP r, List.mem_map_of_mem hrm, z.1, hzP, by
   rw [show fieldsOf z.1 0 = [] by unfold fieldsOf; rw [if_neg (fun h => by omega)]; rfl, wt_eq, if_neg (by rw [hskf.1]; decide)]
   simp only [wtA]
   omega⟩ (fun r2 hr2 p2 hp2 hf2 _ h3 => by have := hk2 r2 hr2 p2 hp2 hf2; omega) (fun h => by omega) hr2 hp3 (hrs2.mono (fun x hx => List.mem_append_left _ hx)) (fun r hr => ⟨(hre2 r hr).1.mono (fun x hx => List.mem_append_left _ hx), (hre2 r hr).2⟩) hps3 hpc3 hpe3
  rw [← hr2, ← hp3] at hrest
  apply TL.one rfl
  refine OL.callE (α := BG) (fun y => .int .i64 (buildE D f gB.st (rs2.map rowP) (ps3.map Prod.fst)).2) (fun y => y.st = (buildE D f gB.st (rs2.map rowP) (ps3.map Prod.fst)).1 ∧ (∀ x ∈ gB.L, x ∈ y.L) ∧ (∀ z ∈ y.outs, NdSeen s y.L z) ∧ Mo (d + 1) (4097 + 400 * f + i + 1) y.st) (fun y => Cls (Ls ++ bI s.heap.size bb bm y X) S) rfl rfl (by exact Args.au) (fun w2 hw2 => ?_) ?_
  ·have hp := Cls.pack hw2 (hnoL _)
   have hc := hB S (bag s.heap.size (Ls ++ [X])) bb ⟨gB.many, gB.full, gB.outs, gB.O, gB.q, gB.c, OA3, gB.L ++ rowsL q2 rs2 ++ L3⟩ q2 q3 c2 c3 (d + 1) (4097 + 400 * f + i) rs2 ps3 w2 hs hbb (fun k hk => hk.1) (fun z hz => (hg1 z hz).mono hLL) hin3 hmo1 (by omega) (by omega) hp
   refine hc.mono ?_
   rintro e w3 ⟨g', k1, k2, k3, k4, k5, k6⟩
   exact ⟨g', k1, ⟨k2, fun x hx => k3 x (hLL x hx), k4, k5⟩, Cls.unpack k6⟩
  rintro g' ⟨hst, hL', hg', hmo'⟩
  obtain ⟨kd, hkd⟩ : ∃ kd, (buildE D f gB.st (rs2.map rowP) (ps3.map Prod.fst)).2 = kd := ⟨_, rfl⟩
  rw [hkd, ← hst] at hrest
  rw [hkd]
  apply OL.nil
  refine At.tk (fun w9 hw9 => hw9.onlyI (by rw [hLs]; simp)) ?_
  rw [hLs]
  unfold bI
  simp only [List.cons_append, List.nil_append]
  apply TL.one rfl
  apply OL.buildSlice; rfl; rfl; rfl; exact Elems.au; rfl; rfl; intro bk hbk
  apply OL.nil
  refine At.tk (fun w9 hw9 => hw9.onlyI (by exact mau)) ?_
  revert bk
  intro b58 hb58
  have hkl2 : ks.length ≤ 64 := by omega
  apply TL.one rfl
  apply OL.append; rfl; rfl; rfl; rfl; exact Hole.au; exact .head _; exact Take.au; rfl; rfl; assumption; omega; intro O1 g1 cap1
  apply OL.nil
  with_reducible apply At.tn; decide +kernel
  apply TL.one rfl
  apply ofa; rfl; rfl; rfl
  apply OL.nil
  with_reducible apply At.tn; decide +kernel
  apply TL.one rfl
  apply OL.storeB; rfl; rfl; exact CellsL.one rfl; rfl; rfl; rfl; exact Swap.au; exact Put.au
  apply OL.nil
  with_reducible apply At.tn; decide +kernel
  apply TL.nil
  with_reducible apply At.np
  with_reducible apply At.in_normal
  with_reducible apply At.next
  apply W.reg
  apply obn; rfl; rfl; rfl; apply Bin.add_in; omega
  apply omv; rfl; rfl
  apply OL.nil
  rename_i Ow1 gw1 cw1
  have e5 : ks.length + 1 = (ks ++ [kd]).length := by simp
  have e6 : intV ks ++ [Value.int .i64 kd] = intV (ks ++ [kd]) := by rw [intV_append]; rfl
  rw [e5, e6]
  rw [hws2] at hrest
  have hwl2 : ws2.length = ws.length + 1 := by rw [← hws2]; simp
  exact At.again (i + 1, ⟨g', Ow1, some ⟨gw1, 0, none⟩, cw1, ws2, O1, some ⟨g1, 0, none⟩, cap1, ks ++ [kd]⟩) ⟨by simp only; omega, hrest, fun x hx => hL' x (hL1 x hx), hg', hmo'.le (by simp only; omega), by simp only; omega, by simp only [← e5]; omega⟩ (by simp only; omega) (by exact Sub.au) (fun w' hw' => hw'.thin (.blk hb58 (.blk hb43 (.blk hb12 (.blk hb11 Thin.same)))))
 ·obtain rfl : i = rs.length := by omega
  rw [List.drop_eq_nil_of_le (Nat.le_refl _), List.map_nil, wordsL] at hrest
  have hwE : wordsE (buildE D f) g.st (rs.map rowP) (ps.map Prod.fst) at_ = addN (otherM (buildE D f) gB.st (rs.map rowP) (ps.map Prod.fst) at_).1 ⟨3, 0, p.1, [], ws, ks ++ [(otherM (buildE D f) gB.st (rs.map rowP) (ps.map Prod.fst) at_).2]⟩ := by
   unfold wordsE
   rw [hWL, ← hrest, hgp]
  rw [hwE]
  obtain ⟨Ls, hLs⟩ : ∃ Ls : List Eng.Item, Ls = [blk b9 77 [.int .i64 3, .int .i64 0, .slice p.2.1 p.1.length p.2.2, .slice none 0 0, .slice qw ws.length cw, .slice qk ks.length ck], row s.heap.size Ow qw ws.length cw 3 1 (intV ws), row s.heap.size Ok qk ks.length ck 3 1 (intV ks)] := ⟨_, rfl⟩
  have hnoL : ∀ g2 : BG, ∀ k, k < s.heap.size → NotOwned (Ls ++ bI s.heap.size bb bm g2 X) k := fun g2 k hk => by
   rw [hLs]
   exact NotOwned.blk (by omega) (NotOwned.row (by omega) (NotOwned.row (by omega) (hnoI g2 k hk)))
  refine W.xt ?_
  with_reducible apply At.next
  apply W.seq
  refine W.regzC (C0 := Cls [blk b9 77 [.int .i64 3, .int .i64 0, .slice p.2.1 p.1.length p.2.2, .slice none 0 0, .slice qw ws.length cw, .slice qk ks.length ck]] []) (by (repeat (first | exact ZSplit.nil | apply ZSplit.pure rfl | apply ZSplit.tail))) (by kernel_rfl) (by decide +kernel) (fun w hw => hw.drew) (fun w hw => hw.onlyI (by exact mau)) ?_
  apply ZL.op rfl; exact Guard.none; rfl; rfl; apply Pev.fld; rfl; exact yes; rfl
  apply ZL.ld rfl; exact Guard.none; rfl; rfl; apply Pev.load_blk; rfl; exact yes; exact .head _; rfl; rfl
  apply ZL.op rfl; exact Guard.none; rfl; rfl; apply Pev.move; rfl; exact yes
  apply ZL.op rfl; exact Guard.none; rfl; rfl; apply Pev.move; rfl; exact yes
  apply ZL.op rfl; exact Guard.none; rfl; rfl; apply Pev.move; rfl; exact yes
  apply ZL.op rfl; exact Guard.none; rfl; rfl; apply Pev.move; rfl; exact yes
  apply ZL.nilC
  apply TL.one rfl
  refine OL.callE (α := BG) (fun y => .int .i64 (otherM (buildE D f) gB.st (rs.map rowP) (ps.map Prod.fst) at_).2) (fun y => y.st = (otherM (buildE D f) gB.st (rs.map rowP) (ps.map Prod.fst) at_).1 ∧ (∀ x ∈ gB.L, x ∈ y.L) ∧ (∀ z ∈ y.outs, NdSeen s y.L z) ∧ Mo (d + 1) (4097 + 400 * f + rs.length + 1) y.st) (fun y => Cls (Ls ++ bI s.heap.size bb bm y X) S) rfl rfl (by exact Args.au) (fun w2 hw2 => ?_) ?_
  ·have hw3 : Cls (Ls ++ bI s.heap.size bb bm gB X) S w2 := by rw [hLs]; exact hw2
   have hp := Cls.pack hw3 (hnoL _)
   have hc := other_of D s bm f hB S (bag s.heap.size (Ls ++ [X])) bb gB q qp cap capp (d + 1) (4097 + 400 * f + rs.length) at_ rs ps w2 hs hbb (fun k hk => hk.1) hg1 hin1 hat hr0 hmo1 (by omega) (by omega) hp
   rw [hqp] at hc
   refine hc.mono ?_
   rintro e w3 ⟨g', k1, k2, k3, k4, k5, k6⟩
   exact ⟨g', k1, ⟨k2, k3, k4, k5⟩, Cls.unpack k6⟩
  rintro g' ⟨hst, hL', hg', hmo'⟩
  obtain ⟨kd, hkd⟩ : ∃ kd, (otherM (buildE D f) gB.st (rs.map rowP) (ps.map Prod.fst) at_).2 = kd := ⟨_, rfl⟩
  rw [hkd, ← hst]
  apply OL.nil
  refine At.tk (fun w9 hw9 => hw9.onlyI (by rw [hLs]; simp)) ?_
  rw [hLs]
  unfold bI
  simp only [List.cons_append, List.nil_append]
  apply TL.one rfl
  apply OL.buildSlice; rfl; rfl; rfl; exact Elems.au; rfl; rfl; intro bk hbk
  apply OL.nil
  refine At.tk (fun w9 hw9 => hw9.onlyI (by exact mau)) ?_
  revert bk
  intro b69 hb69
  have hkl2 : ks.length ≤ 64 := by omega
  apply TL.one rfl
  apply OL.append; rfl; rfl; rfl; rfl; exact Hole.au; exact .head _; exact Take.au; rfl; rfl; assumption; omega; intro O1 g1 cap1
  apply OL.nil
  with_reducible apply At.tn; decide +kernel
  apply TL.one rfl
  apply ofa; rfl; rfl; rfl
  apply OL.nil
  with_reducible apply At.tn; decide +kernel
  apply TL.one rfl
  apply OL.storeB; rfl; rfl; exact CellsL.one rfl; rfl; rfl; rfl; exact Swap.au; exact Put.au
  apply OL.nil
  with_reducible apply At.tn; decide +kernel
  apply TL.nil
  with_reducible apply At.np
  with_reducible apply At.next
  apply W.sr
  apply omv; rfl; rfl
  apply oop; rfl; apply Pev.load_blkA; rfl; exact yes; exact .tail _ (.head _); rfl; exact Take.au
  have e5 : ks.length + 1 = (ks ++ [kd]).length := by simp
  have e6 : intV ks ++ [Value.int .i64 kd] = intV (ks ++ [kd]) := by rw [intV_append]; rfl
  rw [e5, e6]
  obtain ⟨ks2, hks2⟩ : ∃ ks2, ks ++ [kd] = ks2 := ⟨_, rfl⟩
  rw [hks2] at e5 ⊢
  refine OL.fact (φ := 0 < (intV ws).length → ∃ a, qw = some a) (fun w2 hw2 hl => ?_) (fun hqw => ?_)
  ·obtain ⟨a9, k1, _⟩ := SlAt.of_row (hw2.item (i := row s.heap.size Ow qw ws.length cw 3 1 (intV ws)) (by exact mau)) hl
   exact ⟨a9, k1⟩
  refine OL.fact (fun w2 hw2 => row_cap (hw2.item (i := row s.heap.size Ow qw ws.length cw 3 1 (intV ws)) (by exact mau))) (fun hwc => ?_)
  obtain ⟨g2, hg2⟩ : ∃ g2 : BG, g2 = ⟨g'.many, g'.full, g'.outs, g'.O, g'.q, g'.c, fun k => (g'.OA k ∨ (row s.heap.size Ow qw ws.length cw 3 1 (intV ws)).own k) ∨ (row s.heap.size O1 (some ⟨g1, 0, none⟩) ks2.length cap1 3 1 (intV ks2)).own k, (g'.L ++ slL qw (intV ws)) ++ slL (some ⟨g1, 0, none⟩) (intV ks2)⟩ := ⟨_, rfl⟩
  have hLg : ∀ x ∈ g'.L, x ∈ g2.L := fun x hx => by
   rw [hg2]
   exact List.mem_append_left _ (List.mem_append_left _ hx)
  obtain ⟨nd, hnd⟩ : ∃ nd : NdE, nd = (⟨3, 0, p.1, [], ws, ks2⟩, ⟨p.2, (none, 0), (qw, cw), (some ⟨g1, 0, none⟩, cap1)⟩) := ⟨_, rfl⟩
  have hns : NdSeen s g2.L nd := by
   rw [hnd]
   refine ⟨hpsn.mono (fun x hx => hLg x (hL' x (hL1 x hx))), Seen.nil, Seen.new hqw (fun x hx => ?_), Seen.new (fun _ => ⟨_, rfl⟩) (fun x hx => ?_), ⟨by simp only; omega, by simp, by simp only; omega, by simp only; omega⟩, fun h => by simp only at h; omega, Nat.zero_le _, hwc⟩
   ·rw [hg2]
    exact List.mem_append_left _ (List.mem_append_right _ hx)
   ·rw [hg2]
    exact List.mem_append_right _ hx
  have hst2 : g2.st = g'.st := by rw [hg2]; rfl
  have hmo2 := hmo'.add nd.1
  have hol := hmo'.out
  have hml := hmo'.lt (by omega)
  have hstl : g'.st.out.length = g'.outs.length := by simp [BG.st]
  rw [show (⟨3, 0, p.1, [], ws, ks2⟩ : Pt.Nd) = nd.1 by rw [hnd], ← hst2]
  refine OL.callE (α := BG) (fun y => .int .i64 (addN g2.st nd.1).2) (fun y => y.st = (addN g2.st nd.1).1 ∧ y.L = g2.L ∧ ∀ z ∈ y.outs, NdSeen s g2.L z) (fun y => Cls (bI s.heap.size bb bm y X) S) rfl rfl (by exact Args.au) (fun w2 hw2 => ?_) ?_
  ·have h3 : Cls (bI s.heap.size bb bm g2 X) S w2 := by
    rw [hg2]
    exact (hw2.thin (.blk hb69 (.blk hb9 Thin.same))).rows2
   have hc := add_calls s S X bb bm g2 nd w2 hs hbb hX (by rw [hg2]; show g'.outs.length ≤ _; omega) (fun z hz => (hg' z (by rw [hg2] at hz; exact hz)).mono hLg) hns h3
   rw [hnd] at hc ⊢
   refine hc.mono ?_
   rintro e w3 ⟨g3, k1, k2, k3, k4, k5⟩
   exact ⟨g3, k1, ⟨k2, k3, k4⟩, k5⟩
  rintro g3 ⟨hst3, hL3, hg3⟩
  apply oas; rfl; rfl
  apply OL.nx
  apply W.ret
  ((with_reducible apply At.fin1); rfl; rfl; intro w' hw')
  refine ⟨g3, rfl, hst3, fun x hx => by rw [hL3]; exact hLg x (hL' x (hL1 x hx)), fun z hz => by rw [hL3]; exact hg3 z hz, ?_, hw'⟩
  rw [hst3, hst2]
  exact hmo2.le (by omega)
end Go.Proofs.Ytleggdmhihcafaa.pt

/- The walks of build's closures, and of slices.ContainsFunc at rows. Conditions: none. -/
namespace Go.Pt
open Go.Eng Go.RowKit
def hasP (at_ : Nat) (is : Ty → Bool) (r : RowE) : Bool := match r.2.1[at_]? with
 | none => false
 | some p => !free p.1 && is p.1
end Go.Pt
namespace Go.Proofs.Ytleggdmhihcafaa.pt
open Go.RowKit Go.Eng Go.Pt
set_option maxRecDepth 100000
theorem build1_calls (p : Ty) (y : PY) (w : World) : Calls Try.prog 48 [.agg (tyc p y).toArray].toArray w fun e w' => e = .returned (.bool (!free p)) ∧ Ext w w' := by
 refine enter Try.func48 rfl Try.ntmps48 rfl (Cls.start w) ?_
 (simp only [argEnv, Nat.zero_add, Nat.reduceAdd])
 simp only [tyc]
 apply W.sr
 apply OL.box; rfl; rfl; exact CellsL.agg; (intro bk hbk; simp only [AllLe, and_true] at hbk)
 apply oas; rfl; rfl
 apply OL.nsr
 apply oop; rfl; apply Pev.load_blkA; rfl; exact yes; exact .head _; rfl; exact Take.au
 have hfr : ∀ w2, Calls Try.prog 49 [.agg #[.int .i64 p.kind, .string p.name, .int .i64 p.var, .slice y.1 p.args.length y.2]].toArray w2 fun e w' => e = .returned (.bool (free p)) ∧ Ext w2 w' := fun w2 => mfree_calls p y w2
 (((first | (with_reducible apply OL.op) | (with_reducible apply QL.op)); (exact Guard.au); rfl; rfl); (exact Pev.call (v := .bool (free p)) rfl (by exact Args.au) (fun _ w2 hw2 => (hfr w2).mono fun e w3 h => ⟨h.1, hw2.ext h.2⟩)))
 apply oop; rfl; apply Pev.not; rfl; exact yes
 apply oas; rfl; rfl
 apply OL.nx
 apply W.ret
 ((with_reducible apply At.fin1); rfl; rfl; intro w' hw')
 exact ⟨rfl, by (exact hw'.fr)⟩
theorem build2_calls (z : Ty × PY) (bc : Nat) (nm : ByteArray) (w : World) (hc : w.cell? ⟨bc, 0 + 0, none⟩ = some (.string nm)) (hb : bc < w.heap.size) : Calls Try.prog 51 [.agg (tyc z.1 z.2).toArray, .pointer (some ⟨bc, 0, none⟩)].toArray w fun e w' => e = .returned (.bool (isC nm z.1)) ∧ Ext w w' := by
 refine enter Try.func51 rfl Try.ntmps51 rfl (Cls.start w) ?_
 (simp only [argEnv, Nat.zero_add, Nat.reduceAdd])
 simp only [tyc]
 apply W.sr
 apply OL.box; rfl; rfl; exact CellsL.agg; (intro bk hbk; simp only [AllLe, and_true] at hbk)
 apply oas; rfl; rfl
 apply OL.nsr
 apply ofa; rfl; rfl; rfl
 apply old; rfl; rfl; exact .head _; rfl; rfl
 apply ofa; rfl; rfl; rfl
 apply oop; rfl; apply Pev.load_kept; rfl; exact yes; exact .head _; rfl; intro hcond; assumption; intro hcond; assumption; intro hcond; exact NotOwned.au
 apply obn; rfl; rfl; rfl; apply Bin.str_eql
 apply oas; rfl; rfl
 apply OL.nx
 apply W.ret
 ((with_reducible apply At.fin1); rfl; rfl; intro w' hw')
 exact ⟨rfl, by (exact hw'.fr)⟩
theorem build3_calls (r : RowE) (b7 b12 at_ : Nat) (f : FuncId) (first caps : List Value) (is : Ty → Bool) (w : World) (h7 : w.cell? ⟨b7, 0, none⟩ = some (.int .i64 (at_ : Int))) (hb7 : b7 < w.heap.size) (h12 : w.cell? ⟨b12, 0, none⟩ = some (.func (.func f) first.toArray caps.toArray)) (hb12 : b12 < w.heap.size) (hsl : SlAt w w.heap.size r.2.2.1 (cat tyR.c r.2.1)) (hat : at_ < r.2.1.length) (hl : r.2.1.length ≤ 100000) (hf : callable Try.prog f = true)
  (hp : ∀ (z : Ty × PY) w', Ext w w' → Calls Try.prog f (first ++ [Value.agg (tyc z.1 z.2).toArray] ++ caps).toArray w' fun e w'' => e = .returned (.bool (is z.1)) ∧ Ext w' w'') :
  Calls Try.prog 53 [.agg (rowC r).toArray, .pointer (some ⟨b7, 0, none⟩), .pointer (some ⟨b12, 0, none⟩)].toArray w fun e w' => e = .returned (.bool (hasP at_ is r)) ∧ Ext w w' := by
 refine enter Try.func53 rfl Try.ntmps53 rfl (Cls.start w) ?_
 obtain ⟨ap, z, hqp, habp, hpi, hcellp⟩ := hsl.elem tyR.clen (by decide) hat
 have hcellp : CellsAt w (ap.add (at_ * 4)) [.int .i64 z.1.kind, .string z.1.name, .int .i64 z.1.var, .slice z.2.1 z.1.args.length z.2.2] := hcellp
 have hfr : ∀ w2, Calls Try.prog 49 [.agg #[.int .i64 z.1.kind, .string z.1.name, .int .i64 z.1.var, .slice z.2.1 z.1.args.length z.2.2]].toArray w2 fun e w' => e = .returned (.bool (free z.1)) ∧ Ext w2 w' := fun w2 => mfree_calls z.1 z.2 w2
 have hpz : ∀ w2, Ext w w2 → Calls Try.prog f (first ++ [Value.agg #[.int .i64 z.1.kind, .string z.1.name, .int .i64 z.1.var, .slice z.2.1 z.1.args.length z.2.2]] ++ caps).toArray w2 fun e w'' => e = .returned (.bool (is z.1)) ∧ Ext w2 w'' := fun w2 hx => hp z w2 hx
 have hres : hasP at_ is r = (!free z.1 && is z.1) := by unfold hasP; rw [hpi]
 rw [hres]
 (simp only [argEnv, Nat.zero_add, Nat.reduceAdd])
 simp only [rowC]
 rw [hqp]
 apply W.sr
 apply OL.box; rfl; rfl; exact CellsL.agg; (intro bk hbk; simp only [AllLe, and_true] at hbk)
 apply oas; rfl; rfl
 apply OL.nx
 apply W.seq
 apply W.regd0; decide +kernel; kernel_rfl; decide +kernel; exact fun w hw => hw.drew
 apply qfa; rfl; rfl; rfl
 apply qld; rfl; rfl; exact .head _; rfl; rfl
 apply qop; rfl; apply Pev.load_kept; rfl; exact yes; exact .head _; rfl; intro hcond; assumption; intro hcond; assumption; intro hcond; exact NotOwned.au
 apply qop; rfl; apply Pev.idx; rfl; exact yes; rfl; exact yes; rfl; rfl; intro hcond; omega
 apply qop; rfl; apply Pev.load_keptA; rfl; exact yes; exact .head _; rfl; intro hcond; assumption; rfl; intro hcond; (rw [add_block]; assumption); intro hcond; exact NotOwned.au
 (((first | (with_reducible apply OL.op) | (with_reducible apply QL.op)); (exact Guard.au); rfl; rfl); (exact Pev.call (v := .bool (free z.1)) rfl (by exact Args.au) (fun _ w2 hw2 => (hfr w2).mono fun e w3 h => ⟨h.1, hw2.ext h.2⟩)))
 apply qop; rfl; apply Pev.not; rfl; exact yes
 apply qmv; rfl; rfl
 apply qy; rfl; rfl; rfl; apply Pev.load_kept; rfl; exact yes; exact .head _; rfl; intro hcond; assumption; intro hcond; assumption; intro hcond; exact NotOwned.au
 apply qy; rfl; rfl; rfl; apply Pev.fld; rfl; exact yes; rfl
 apply qy; rfl; rfl; rfl; apply Pev.load_blk; rfl; exact fun h => h; exact .head _; rfl; rfl
 apply qy; rfl; rfl; rfl; apply Pev.load_kept; rfl; exact yes; exact .head _; rfl; intro hcond; assumption; intro hcond; assumption; intro hcond; exact NotOwned.au
 apply qy; rfl; rfl; rfl; apply Pev.idx; rfl; exact fun h => h; rfl; exact fun h => h; rfl; rfl; intro hcond; omega
 apply qy; rfl; rfl; rfl; apply Pev.load_keptA; rfl; exact fun h => h; exact .head _; rfl; intro hcond; assumption; rfl; intro hcond; (rw [add_block]; assumption); intro hcond; exact NotOwned.au
 (((first | (with_reducible apply OL.op) | (with_reducible apply QL.op)); (exact Guard.au); rfl; rfl); (apply Pev.callv (first := first) (cap := caps)); rfl; ((first | exact fun _ => rfl | exact fun h => h | (intro h; simp_all; done))); (exact hf); (exact Args.au); (exact (fun _ w2 hw2 => (hpz w2 (hw2.toExt (.head _) (fun k hk => NotOwned.blk (by omega) .nil))).mono (fun e w3 h => ⟨h.1, hw2.ext h.2⟩))))
 apply qop; rfl; apply Pev.pick_and; rfl; exact yes; rfl; exact fun h => h
 apply qas; rfl; rfl
 apply QL.nil
 with_reducible apply At.next
 apply W.ret
 ((with_reducible apply At.fin1); rfl; rfl; intro w' hw')
 exact ⟨rfl, by (exact hw'.fr)⟩
theorem IndexR_calls (q : Option Addr) (cap : Nat) (ps : List RowE) (f : FuncId) (first caps : List Value) (p : RowE → Bool) (w : World) (hlen : ps.length ≤ 9223372036854775807) (h : SlAt w w.heap.size q (cat rowC ps))
  (hf : callable Try.prog f = true) (hp : ∀ s ∈ ps, ∀ w', Ext w w' → Calls Try.prog f (first ++ [Value.agg (rowC s).toArray] ++ caps).toArray w' fun e w'' => e = .returned (.bool (p s)) ∧ Ext w' w'') :
  Calls Try.prog 83 #[.slice q ps.length cap, .func (.func f) first.toArray caps.toArray] w fun e w' => e = .returned (.int .i64 (idxP p ps 0)) ∧ Ext w w' := by
 refine enter Try.func83 rfl Try.ntmps83 rfl (Cls.start w) ?_
 (simp only [argEnv, Nat.zero_add, Nat.reduceAdd])
 apply W.sr
 apply oas; rfl; rfl
 apply OL.nx
 apply W.seq
 apply W.sr
 apply omv; rfl; rfl
 apply oop; rfl; apply Pev.len_slice; rfl; exact yes; rfl
 apply omv; rfl; rfl
 apply OL.nx
 apply W.block
 refine W.loop (G := Nat) (fun i => i ≤ ps.length ∧ idxP p (ps.drop i) i = idxP p ps 0) (fun i => ps.length - i)
  (fun i => [(8, true, .int .i64 (i : Int)), (7, true, .int .i64 (ps.length : Int)), (0, true, .slice q ps.length cap), (1, true, .func (.func f) first.toArray caps.toArray)])
  (fun i => Cls [] [w]) 0 ⟨by omega, rfl⟩ (by exact Sub.au) (fun w' hw' => hw') ?_
 rintro i ⟨hi, hrest⟩
 apply W.sr
 apply obn; rfl; rfl; rfl; apply Bin.lss
 apply OL.nx
 apply W.seq
 (refine W.cnd (fun hlt => ?_) (fun hlt => ?_)) <;> (try (exfalso; first | omega | exact hlt trivial | contradiction))
 ·obtain ⟨a, u, rfl, hab, hu, hcell⟩ := h.elem rowC_len (by decide) (show i < ps.length by omega)
  have hab : a.block < w.heap.size := hab
  have hpu := fun w3 => hp u (List.mem_of_getElem? hu) w3
  simp only [rowC] at hpu hcell
  rw [idxP_get hu] at hrest
  apply W.sk
  apply W.sb
  apply W.sr
  apply omv; rfl; rfl
  apply oas; rfl; rfl
  apply OL.nsr
  apply omv; rfl; rfl
  apply omv; rfl; rfl
  apply omv; rfl; rfl
  apply oop; rfl; apply Pev.idx; rfl; exact yes; rfl; exact yes; rfl; rfl; intro hcond; omega
  apply oop; rfl; apply Pev.load_keptA; rfl; exact yes; exact .head _; rfl; intro hcond; assumption; rfl; intro hcond; (rw [add_block]; assumption); intro hcond; exact NotOwned.au
  (((first | (with_reducible apply OL.op) | (with_reducible apply QL.op)); (exact Guard.au); rfl; rfl); (apply Pev.callv (first := first) (cap := caps)); rfl; ((first | exact fun _ => rfl | exact fun h => h | (intro h; simp_all; done))); (exact hf); (exact Args.au); (exact (fun _ w2 hw2 => (hpu w2 (hw2.toExt (by exact mau) (fun k hk => by exact NotOwned.au))).mono (fun e w3 h => ⟨h.1, hw2.ext h.2⟩))))
  apply OL.nx
  refine W.cond rfl (fun heq => ?_) (fun heq => ?_)
  ·rw [if_pos heq] at hrest
   apply W.sr
   apply omv; rfl; rfl
   apply oas; rfl; rfl
   apply OL.nx
   refine W.rt ?_
   ((with_reducible apply At.fin1); rfl; rfl; intro w' hw')
   exact ⟨by rw [hrest], by (exact hw'.fr)⟩
  ·rw [if_neg (by simpa using heq)] at hrest
   apply W.skip
   with_reducible apply At.in_normal
   with_reducible apply At.next
   apply W.reg
   apply obn; rfl; rfl; rfl; apply Bin.add_in; omega
   apply omv; rfl; rfl
   apply OL.nil
   exact At.again (i + 1) ⟨by omega, hrest⟩ (by omega) (by exact Sub.au) (fun w' hw' => hw'.thin (by exact Thin.au))
 ·rw [idxP_end (by omega)] at hrest
  refine W.xt ?_
  with_reducible apply At.next
  apply W.sr
  apply oas; rfl; rfl
  apply OL.nx
  apply W.ret
  ((with_reducible apply At.fin1); rfl; rfl; intro w' hw')
  exact ⟨by rw [← hrest], by (exact hw'.fr)⟩
theorem ContainsR_calls (q : Option Addr) (cap : Nat) (ps : List RowE) (f : FuncId) (first caps : List Value) (p : RowE → Bool) (w : World) (hlen : ps.length ≤ 9223372036854775807) (h : SlAt w w.heap.size q (cat rowC ps))
  (hf : callable Try.prog f = true) (hp : ∀ s ∈ ps, ∀ w', Ext w w' → Calls Try.prog f (first ++ [Value.agg (rowC s).toArray] ++ caps).toArray w' fun e w'' => e = .returned (.bool (p s)) ∧ Ext w' w'') :
  Calls Try.prog 52 #[.slice q ps.length cap, .func (.func f) first.toArray caps.toArray] w fun e w' => e = .returned (.bool (ps.any p)) ∧ Ext w w' := by
 refine enter Try.func52 rfl Try.ntmps52 rfl (Cls.start w) ?_
 (simp only [argEnv, Nat.zero_add, Nat.reduceAdd])
 apply W.sr
 apply oas; rfl; rfl
 apply OL.nsr
 apply omv; rfl; rfl
 apply omv; rfl; rfl
 (((first | (with_reducible apply OL.op) | (with_reducible apply QL.op)); (exact Guard.au); rfl; rfl); (exact Pev.call (v := .int .i64 (idxP p ps 0)) rfl (by exact Args.au) (fun _ w2 hw2 => (IndexR_calls q cap ps f first caps p w2 hlen (SlAt.extS h (hw2.toExt (s := w) (by exact mau) (fun k hk => by exact NotOwned.au))) hf (fun s hs w3 h3 => hp s hs w3 ((hw2.toExt (s := w) (by exact mau) (fun k hk => by exact NotOwned.au)).trans h3))).mono (fun e w3 h => ⟨h.1, hw2.ext h.2⟩))))
 apply obn; rfl; rfl; rfl; apply Bin.geq
 apply oas; rfl; rfl
 apply OL.nx
 apply W.ret
 ((with_reducible apply At.fin1); rfl; rfl; intro w' hw')
 exact ⟨by rw [← idxP_nonneg p ps 0], by (exact hw'.fr)⟩
end Go.Proofs.Ytleggdmhihcafaa.pt
