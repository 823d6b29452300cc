/- Texts of the proof of PatternsMissing, part 2: rules of a calculus for walking, plain laws, and walks of the functions that the law reaches. No condition. -/
import Derived.Test.YtleggdmhihcafaaProg
import Derived.Shelf.SlGeneric
import Derived.Shelf.Spec.SlicesGrow
import Derived.Ground.Names8Prog
import Derived.LaidEqlPtr
import Derived.Lib.Builder
import Derived.Laws.Pointers
import Derived.ArgAppend
import Derived.Test.YtleggdmhihcafaaPatternsMissing1
set_option linter.unusedVariables false
set_option linter.unusedSimpArgs false
set_option linter.unusedSectionVars false
/- The walks of patterns' small functions: free, anys, first, rest; slices.IndexFunc and ContainsFunc at []api.Pat. Conditions: none. -/
namespace Go.Pt
open Go.Eng Go.RowKit
def idxF (f : Ty → Bool) : List (Ty × PY) → Nat → Int
 | [], _ => -1
 | p :: r, i => if f p.1 then (i : Int) else idxF f r (i + 1)
theorem idxF_drop {f : Ty → Bool} {ps : List (Ty × PY)} {i : Nat} {p : Ty × PY} (h : ps[i]? = some p) : idxF f (ps.drop i) i = if f p.1 then (i : Int) else idxF f (ps.drop (i + 1)) (i + 1) := by
 obtain ⟨h1, rfl⟩ := List.getElem?_eq_some_iff.1 h
 rw [List.drop_eq_getElem_cons h1, idxF]
theorem idxF_any (f : Ty → Bool) : ∀ (ps : List (Ty × PY)) (i : Nat), decide (0 ≤ idxF f ps i) = (ps.map Prod.fst).any f
 | [], i => rfl
 | p :: r, i => by
  rw [idxF, List.map_cons, List.any_cons]
  split
  ·rename_i h
   rw [h, Bool.true_or]
   simp
  ·rename_i h
   rw [idxF_any f r (i + 1), Bool.not_eq_true] at *
   simp [h]
theorem idxF_P (f : Ty → Bool) : ∀ (ps : List (Ty × PY)) (k : Nat), idxF f ps k = idxP (fun x => f x.1) ps k
 | [], _ => rfl
 | p :: r, k => by rw [idxF, idxP, idxF_P f r]
theorem Arr.of_sl {α μ : Type} {R : Rel α μ} {w : World} {l : List (α × μ)} {q : Option Addr} (h : SlAt w w.heap.size q (cat R.c l)) (hel : ∀ p ∈ l, R.ok w (low w) p.1 p.2) : Arr R w (low w) l q :=
 ⟨fun hl => h (by rw [cat_length R.clen]; exact Nat.mul_pos hl R.pos), hel⟩
theorem Arr.drop {α μ : Type} {R : Rel α μ} {w : World} {l : List (α × μ)} {q : Option Addr} {cap : Nat} (h : Arr R w (low w) l q) (hcap : l.length ≤ cap) (k : Nat) : Arr R w (low w) (l.drop k) (cutq q cap k R.sz) :=
 Arr.of_sl ((h.slAt).dropC R.clen hcap k) (fun p hp => h.el p (List.mem_of_mem_drop hp))
theorem Arr.of_row {α μ : Type} {R : Rel α μ} {w w' : World} {B m cap : Nat} {O : Nat → Prop} {q : Option Addr} {e : TypeId} {l : List (α × μ)} (h : (row B O q m cap e R.sz (cat R.c l)).holds w') (hel : ∀ p ∈ l, R.ok w (low w) p.1 p.2) (hx : Ext w w') : Arr R w' (low w') l q :=
 Arr.of_sl (SlAt.of_row h) (fun p hp => Rel.ext (hel p hp) hx)
end Go.Pt
namespace Go.Proofs.Ytleggdmhihcafaa.pt
open Go.RowKit Go.Eng Go.Pt
set_option maxRecDepth 100000
theorem free_calls (p : Ty) (y : PY) (w : World) : Calls Try.prog 44 [.agg (tyc p y).toArray].toArray w fun e w' => e = .returned (.bool (free p)) ∧ Ext w w' := by
 refine enter Try.func44 rfl Try.ntmps44 rfl (Cls.start w) ?_
 (simp only [argEnv, Nat.zero_add, Nat.reduceAdd])
 simp only [tyc]
 apply W.sr
 apply OL.box; rfl; rfl; exact CellsL.agg; (intro bk hbk; simp only [AllLe, and_true] at hbk)
 apply oas; rfl; rfl
 apply OL.nsr
 apply ofa; rfl; rfl; rfl
 apply old; rfl; rfl; exact .head _; rfl; rfl
 apply obn; rfl; rfl; rfl; apply Bin.eql
 apply omv; rfl; rfl
 apply ono; rfl; rfl; rfl; apply Pev.fld; rfl; exact yes; rfl
 apply ono; rfl; rfl; rfl; apply Pev.load_blk; rfl; exact fun h => h; exact .head _; rfl; rfl
 apply ono; rfl; rfl; rfl; apply Pev.bin; rfl; exact fun h => h; rfl; exact yes; intro hcond; apply Bin.eql
 apply oop; rfl; apply Pev.pick_or; rfl; exact yes; rfl; exact fun h => h
 apply oas; rfl; rfl
 apply OL.nx
 apply W.ret
 ((with_reducible apply At.fin1); rfl; rfl; intro w' hw')
 refine ⟨congrArg (fun b => Ending.returned (Value.bool b)) ?_, by (exact hw'.fr)⟩
 unfold free
 cases h : decide (p.kind = 0) <;> simp
theorem IndexFunc_calls (q : Option Addr) (cap : Nat) (ps : List (Ty × PY)) (f : FuncId) (first caps : List Value) (p : Ty → Bool) (w : World) (hlen : ps.length ≤ 9223372036854775807) (h : SlAt w w.heap.size q (cat tyR.c ps))
  (hf : callable Try.prog f = true) (hp : ∀ s ∈ ps, ∀ w', Ext w w' → Calls Try.prog f (first ++ [Value.agg (tyc s.1 s.2).toArray] ++ caps).toArray w' fun e w'' => e = .returned (.bool (p s.1)) ∧ Ext w' w'') :
  Calls Try.prog 47 #[.slice q ps.length cap, .func (.func f) first.toArray caps.toArray] w fun e w' => e = .returned (.int .i64 (idxF p ps 0)) ∧ Ext w w' := by
 refine enter Try.func47 rfl Try.ntmps47 rfl (Cls.start w) ?_
 (simp only [argEnv, Nat.zero_add, Nat.reduceAdd])
 apply W.sr
 apply oas; rfl; rfl
 apply OL.nx
 apply W.seq
 apply W.sr
 apply omv; rfl; rfl
 apply oop; rfl; apply Pev.len_slice; rfl; exact yes; rfl
 apply omv; rfl; rfl
 apply OL.nx
 apply W.block
 refine W.loop (G := Nat) (fun i => i ≤ ps.length ∧ idxF p (ps.drop i) i = idxF p ps 0) (fun i => ps.length - i)
  (fun i => [(8, true, .int .i64 (i : Int)), (7, true, .int .i64 (ps.length : Int)), (0, true, .slice q ps.length cap), (1, true, .func (.func f) first.toArray caps.toArray)])
  (fun i => Cls [] [w]) 0 ⟨by omega, rfl⟩ (by exact Sub.au) (fun w' hw' => hw') ?_
 rintro i ⟨hi, hrest⟩
 apply W.sr
 apply obn; rfl; rfl; rfl; apply Bin.lss
 apply OL.nx
 apply W.seq
 (refine W.cnd (fun hlt => ?_) (fun hlt => ?_)) <;> (try (exfalso; first | omega | exact hlt trivial | contradiction))
 ·obtain ⟨a, u, rfl, hab, hu, hcell⟩ := h.elem tyR.clen (by decide) (show i < ps.length by omega)
  have hab : a.block < w.heap.size := hab
  have hcell : CellsAt w (a.add (i * 4)) [.int .i64 u.1.kind, .string u.1.name, .int .i64 u.1.var, .slice u.2.1 u.1.args.length u.2.2] := hcell
  have hpu := fun w3 => hp u (List.mem_of_getElem? hu) w3
  simp only [tyc] at hpu
  rw [idxF_drop hu] at hrest
  apply W.sk
  apply W.sb
  apply W.sr
  apply omv; rfl; rfl
  apply oas; rfl; rfl
  apply OL.nsr
  apply omv; rfl; rfl
  apply omv; rfl; rfl
  apply omv; rfl; rfl
  apply oop; rfl; apply Pev.idx; rfl; exact yes; rfl; exact yes; rfl; rfl; intro hcond; omega
  apply oop; rfl; apply Pev.load_keptA; rfl; exact yes; exact .head _; rfl; intro hcond; assumption; rfl; intro hcond; (rw [add_block]; assumption); intro hcond; exact NotOwned.au
  (((first | (with_reducible apply OL.op) | (with_reducible apply QL.op)); (exact Guard.au); rfl; rfl); (apply Pev.callv (first := first) (cap := caps)); rfl; ((first | exact fun _ => rfl | exact fun h => h | (intro h; simp_all; done))); (exact hf); (exact Args.au); (exact (fun _ w2 hw2 => (hpu w2 (hw2.toExt (by exact mau) (fun k hk => by exact NotOwned.au))).mono (fun e w3 h => ⟨h.1, hw2.ext h.2⟩))))
  apply OL.nx
  refine W.cond rfl (fun heq => ?_) (fun heq => ?_)
  ·rw [if_pos heq] at hrest
   apply W.sr
   apply omv; rfl; rfl
   apply oas; rfl; rfl
   apply OL.nx
   refine W.rt ?_
   ((with_reducible apply At.fin1); rfl; rfl; intro w' hw')
   exact ⟨by rw [hrest], by (exact hw'.fr)⟩
  ·rw [if_neg (by simpa using heq)] at hrest
   apply W.skip
   with_reducible apply At.in_normal
   with_reducible apply At.next
   apply W.reg
   apply obn; rfl; rfl; rfl; apply Bin.add_in; omega
   apply omv; rfl; rfl
   apply OL.nil
   exact At.again (i + 1) ⟨by omega, hrest⟩ (by omega) (by exact Sub.au) (fun w' hw' => hw'.thin (by exact Thin.au))
 ·rw [List.drop_eq_nil_of_le (by omega), idxF] at hrest
  refine W.xt ?_
  with_reducible apply At.next
  apply W.sr
  apply oas; rfl; rfl
  apply OL.nx
  apply W.ret
  ((with_reducible apply At.fin1); rfl; rfl; intro w' hw')
  exact ⟨by rw [← hrest], by (exact hw'.fr)⟩
theorem ContainsFunc_calls (q : Option Addr) (cap : Nat) (ps : List (Ty × PY)) (f : FuncId) (first caps : List Value) (p : Ty → Bool) (w : World) (hlen : ps.length ≤ 9223372036854775807) (h : Arr tyR w (low w) ps q)
  (hf : callable Try.prog f = true) (hp : ∀ s ∈ ps, ∀ w', Ext w w' → Calls Try.prog f (first ++ [Value.agg (tyc s.1 s.2).toArray] ++ caps).toArray w' fun e w'' => e = .returned (.bool (p s.1)) ∧ Ext w' w'') :
  Calls Try.prog 71 #[.slice q ps.length cap, .func (.func f) first.toArray caps.toArray] w fun e w' => e = .returned (.bool ((ps.map Prod.fst).any p)) ∧ Ext w w' := by
 refine enter Try.func71 rfl Try.ntmps71 rfl (Cls.start w) ?_
 (simp only [argEnv, Nat.zero_add, Nat.reduceAdd])
 apply W.sr
 apply oas; rfl; rfl
 apply OL.nsr
 apply omv; rfl; rfl
 apply omv; rfl; rfl
 (((first | (with_reducible apply OL.op) | (with_reducible apply QL.op)); (exact Guard.au); rfl; rfl); (exact Pev.call rfl (by exact Args.au) (fun _ w2 hw2 => (IndexFunc_calls q cap ps f first caps p w2 hlen (h.at hw2 (by exact mau) (fun k hk => by exact NotOwned.au)).slAt hf (fun s hs w3 h3 => hp s hs w3 ((hw2.toExt (s := w) (by exact mau) (fun k hk => by exact NotOwned.au)).trans h3))).mono (fun e w3 h => ⟨h.1, hw2.ext h.2⟩))))
 apply obn; rfl; rfl; rfl; apply Bin.geq
 apply oas; rfl; rfl
 apply OL.nx
 apply W.ret
 ((with_reducible apply At.fin1); rfl; rfl; intro w' hw')
 exact ⟨by rw [← idxF_any p ps 0], by (exact hw'.fr)⟩
theorem anys_calls (n : Nat) (w : World) (hn : n * 56 ≤ 140737488355328) : Calls Try.prog 45 [.int .i64 (n : Int)].toArray w fun e w' => ∃ q, e = .returned (.slice q n n) ∧ FrA w w' (List.replicate n (anyT, (none, 0))) q ∧ Ext w w' := by
 refine enter Try.func45 rfl Try.ntmps45 rfl (Cls.start w) ?_
 (simp only [argEnv, Nat.zero_add, Nat.reduceAdd])
 apply W.sr
 apply oas; rfl; rfl
 apply OL.nsr
 apply omv; rfl; rfl
 refine OL.makeSliceK (f := tyR.c) (x0 := (anyT, (none, 0))) (m := n) rfl rfl rfl rfl rfl rfl rfl rfl (by omega) (fun b hb => ?_)
 simp only [AllLe, and_true] at hb
 apply oas; rfl; rfl
 apply OL.nx
 apply W.ret
 ((with_reducible apply At.fin1); rfl; rfl; intro w' hw')
 refine ⟨some ⟨b, 0, none⟩, rfl, fun _ => ⟨⟨b, 0, none⟩, rfl, ⟨hb, hw'.lt _ (.head _) b rfl⟩, fun j v hj => ?_⟩, by (exact hw'.fr)⟩
 rw [add_mid, blk_cell (hw'.item (.head _)), Nat.zero_add]
 exact hj
theorem any_ok (w : World) (O : Nat → Prop) : TyO w O anyT (none, 0) := TyO.of_parts (nm := ⟨#[]⟩) (ps := []) (by simp [I64]) (by simp [I64]) (by simp) (Nat.le_refl _) Arr.nil
theorem anyl_ok (w : World) (O : Nat → Prop) (n : Nat) : ∀ p ∈ List.replicate n (anyT, ((none, 0) : PY)), TyO w O p.1 p.2 := fun p hp => by
 rw [List.eq_of_mem_replicate hp]
 exact any_ok w O
theorem anyl_map (n : Nat) : (List.replicate n (anyT, ((none, 0) : PY))).map Prod.fst = anys n := by rw [List.map_replicate]; rfl
theorem first_step {rs : List (List Ty × PY)} {i : Nat} {p : Ty} {t : List Ty} {y : PY} (h : rs[i]? = some (p :: t, y)) : first ((rs.take (i + 1)).map Prod.fst) = first ((rs.take i).map Prod.fst) ++ if free p then [] else [p] := by
 rw [List.take_add_one, h]
 unfold first
 simp only [Option.toList_some, List.map_append, List.filterMap_append, List.map_cons, List.map_nil]
 cases hf : free p <;> simp [hf]
theorem rest_step {rs : List (List Ty × PY)} {i : Nat} {p : Ty} {t : List Ty} {y : PY} (h : rs[i]? = some (p :: t, y)) : rest ((rs.take (i + 1)).map Prod.fst) = rest ((rs.take i).map Prod.fst) ++ if free p then [t] else [] := by
 rw [List.take_add_one, h]
 unfold rest
 simp only [Option.toList_some, List.map_append, List.filterMap_append, List.map_cons, List.map_nil]
 cases hf : free p <;> simp [hf]
structure GT where
 O : Nat → Prop
 q : Option Addr
 c : Nat
 ps : List (Ty × PY)
structure GL where
 O : Nat → Prop
 q : Option Addr
 c : Nat
 ps : List (List Ty × PY)
theorem row_head {w : World} {rs : List (List Ty × PY)} {q : Option Addr} (h : Arr patsR w (low w) rs q) {i : Nat} (hi : i < rs.length) (hne : ∀ r ∈ rs, r.1 ≠ []) : ∃ a a2 z pt y, q = some a ∧ a.block < w.heap.size ∧ rs[i]? = some (z.1 :: pt.map Prod.fst, y) ∧ w.cell? (a.add (i * 1)) = some (.slice (some a2) (pt.length + 1) y.2) ∧ a2.block < w.heap.size ∧ CellsAt w (a2.add (0 * 4)) [.int .i64 z.1.kind, .string z.1.name, .int .i64 z.1.var, .slice z.2.1 z.1.args.length z.2.2] ∧ Arr tyR w (low w) (z :: pt) (some a2) ∧ pt.length + 1 ≤ y.2 ∧ pt.length + 1 ≤ 9223372036854775807 := by
 obtain ⟨a, u, rfl, hab, hu, hcell, hrok⟩ := h.get hi
 obtain ⟨l, y⟩ := u
 cases l with
 | nil => exact absurd rfl (hne _ (List.mem_of_getElem? hu))
 | cons p t =>
  obtain ⟨⟨pt, hpt, harr⟩, hyc, hyl⟩ := hrok
  cases pt with
  | nil => cases hpt
  | cons z pt =>
   simp only [List.map_cons, List.cons.injEq] at hpt
   obtain ⟨rfl, rfl⟩ := hpt
   obtain ⟨a2, z2, hy1, hab2, hz2, hcell2, hok2⟩ := harr.get (i := 0) (Nat.succ_pos _)
   simp only [List.getElem?_cons_zero, Option.some.injEq] at hz2
   subst hz2
   have hc : w.cell? (a.add (i * 1)) = some (.slice y.1 (z.1 :: List.map Prod.fst pt).length y.2) := hcell 0 _ rfl
   have hl : (z.1 :: List.map Prod.fst pt).length = pt.length + 1 := by simp
   have hy1 : y.1 = some a2 := hy1
   rw [hl] at hyc hyl hc
   rw [hy1] at hc harr
   exact ⟨a, a2, z, pt, y, rfl, hab, hu, hc, hab2, hcell2, harr, hyc, hyl⟩
theorem first_calls (q : Option Addr) (cap : Nat) (rs : List (List Ty × PY)) (w0 w : World) (hx : Ext w0 w) (hlen : rs.length ≤ 1000000) (h : Arr patsR w0 (low w0) rs q) (hne : ∀ r ∈ rs, r.1 ≠ []) :
  Calls Try.prog 37 [.slice q rs.length cap].toArray w fun e w' => ∃ q' c' ps, e = .returned (.slice q' ps.length c') ∧ ps.map Prod.fst = first (rs.map Prod.fst) ∧ ps.length ≤ rs.length ∧ FrA w w' ps q' ∧ (∀ p ∈ ps, TyO w0 (low w0) p.1 p.2) ∧ Ext w w' := by
 refine enter Try.func37 rfl Try.ntmps37 rfl (Cls.start2 hx) ?_
 have hxs := hx.size
 (simp only [argEnv, Nat.zero_add, Nat.reduceAdd])
 apply W.sr
 apply oas; rfl; rfl
 apply OL.nsr
 apply oas; rfl; rfl
 apply OL.nx
 apply W.seq
 apply W.sr
 apply omv; rfl; rfl
 apply oop; rfl; apply Pev.len_slice; rfl; exact yes; rfl
 apply omv; rfl; rfl
 apply OL.nx
 apply W.block
 refine W.loop (G := Nat × GT) (fun g => g.1 ≤ rs.length ∧ g.2.ps.map Prod.fst = first ((rs.take g.1).map Prod.fst) ∧ g.2.ps.length ≤ g.1 ∧ ∀ p ∈ g.2.ps, TyO w0 (low w0) p.1 p.2) (fun g => rs.length - g.1)
  (fun g => [(3, true, .slice g.2.q g.2.ps.length g.2.c), (6, true, .slice q rs.length cap), (7, true, .int .i64 (rs.length : Int)), (8, true, .int .i64 (g.1 : Int))])
  (fun g => Cls [row w.heap.size g.2.O g.2.q g.2.ps.length g.2.c 50 4 (cat tyR.c g.2.ps)] [w, w0]) (0, ⟨fun _ => False, none, 0, []⟩) ⟨Nat.zero_le _, rfl, Nat.le_refl _, fun p hp => by cases hp⟩ (by exact Sub.au) (fun w' hw' => hw'.row_nil w.heap.size 50 4) ?_
 rintro ⟨i, O, q1, c1, ps⟩ ⟨hi, hps, hpl, hok⟩
 simp only at hi hps hpl hok ⊢
 apply W.sr
 apply obn; rfl; rfl; rfl; apply Bin.lss
 apply OL.nx
 apply W.seq
 (refine W.cnd (fun hlt => ?_) (fun hlt => ?_)) <;> (try (exfalso; first | omega | exact hlt trivial | contradiction))
 ·obtain ⟨a, a2, z, pt, y, rfl, hab, hu, hcell, hab2, hcell2, harr, hyc, hyl⟩ := row_head h (show i < rs.length by omega) hne
  have hstep := first_step hu
  rw [← hps] at hstep
  apply W.sk
  apply W.sb
  apply W.sr
  apply oop; rfl; apply Pev.idx; rfl; exact yes; rfl; exact yes; rfl; rfl; intro hcond; omega
  apply oop; rfl; apply Pev.load_kept; rfl; exact yes; exact .tail _ (.head _); rfl; intro hcond; assumption; intro hcond; (rw [add_block]; assumption); intro hcond; exact NotOwned.au
  apply oas; rfl; rfl
  apply OL.nsr
  apply omv; rfl; rfl
  apply oop; rfl; apply Pev.idx; rfl; exact yes; rfl; exact yes; rfl; rfl; intro hcond; (simp only [Bool.and_eq_true, Bool.or_eq_true, Bool.not_eq_true', decide_eq_true_eq, decide_eq_false_iff_not] at *; omega)
  apply oop; rfl; apply Pev.load_keptA; rfl; exact yes; exact .tail _ (.head _); rfl; intro hcond; assumption; rfl; intro hcond; assumption; intro hcond; exact NotOwned.au
  (((first | (with_reducible apply OL.op) | (with_reducible apply QL.op)); (exact Guard.au); rfl; rfl); (exact Pev.call (v := .bool (free z.1)) rfl (by exact Args.au) (fun _ w2 hw2 => (free_calls z.1 z.2 w2).mono (fun e w3 h => ⟨h.1, hw2.ext h.2⟩))))
  apply oop; rfl; apply Pev.not; rfl; exact yes
  apply OL.nx
  refine W.cond rfl (fun hf => ?_) (fun hf => ?_)
  ·have hf : free z.1 = false := by simpa using hf
   have e1 : ps.length + 1 = (ps ++ [z]).length := by simp
   have e2 : cat tyR.c ps ++ [Value.int .i64 z.1.kind, .string z.1.name, .int .i64 z.1.var, .slice z.2.1 z.1.args.length z.2.2] = cat tyR.c (ps ++ [z]) := by rw [cat_append]; rfl
   apply W.reg
   apply omv; rfl; rfl
   apply omv; rfl; rfl
   apply oop; rfl; apply Pev.idx; rfl; exact yes; rfl; exact yes; rfl; rfl; intro hcond; (simp only [Bool.and_eq_true, Bool.or_eq_true, Bool.not_eq_true', decide_eq_true_eq, decide_eq_false_iff_not] at *; omega)
   apply oop; rfl; apply Pev.load_keptA; rfl; exact yes; exact .tail _ (.head _); rfl; intro hcond; assumption; rfl; intro hcond; assumption; intro hcond; exact NotOwned.au
   apply OL.buildSlice; rfl; rfl; rfl; exact Elems.au; rfl; rfl; (intro bk hbk; simp only [AllLe, and_true] at hbk)
   apply OL.append; rfl; rfl; rfl; rfl; exact Hole.au; exact .head _; exact Take.au; rfl; rfl; exact ⟨_, .head _, Nat.le_refl _⟩; omega; intro O1 g1 cap1
   apply oas; rfl; rfl
   apply OL.nil
   with_reducible apply At.in_normal
   with_reducible apply At.next
   apply W.reg
   apply obn; rfl; rfl; rfl; apply Bin.add_in; omega
   apply omv; rfl; rfl
   apply OL.nil
   rw [e1, e2]
   exact At.again (i + 1, ⟨O1, some ⟨g1, 0, none⟩, cap1, ps ++ [z]⟩) ⟨by simp only; omega, by simp only [hstep, hf]; simp, by simp only [← e1]; omega, fun p hp => (List.mem_append.1 hp).elim (hok p) (fun hp => by rw [List.mem_singleton] at hp; rw [hp]; exact harr.el z (.head _))⟩ (by simp only; omega) (by exact Sub.au) (fun w' hw' => hw'.thin (by exact Thin.au))
  ·have hf : free z.1 = true := by simpa using hf
   apply W.skip
   with_reducible apply At.in_normal
   with_reducible apply At.next
   apply W.reg
   apply obn; rfl; rfl; rfl; apply Bin.add_in; omega
   apply omv; rfl; rfl
   apply OL.nil
   exact At.again (i + 1, ⟨O, q1, c1, ps⟩) ⟨by simp only; omega, by simp only [hstep, hf]; simp, by simp only; omega, hok⟩ (by simp only; omega) (by exact Sub.au) (fun w' hw' => hw'.thin (by exact Thin.au))
 ·obtain rfl : i = rs.length := by omega
  rw [List.take_length] at hps
  refine W.xt ?_
  with_reducible apply At.next
  apply W.sr
  apply omv; rfl; rfl
  apply oas; rfl; rfl
  apply OL.nx
  apply W.ret
  ((with_reducible apply At.fin1); rfl; rfl; intro w' hw')
  exact ⟨q1, c1, ps, rfl, hps, hpl, FrA.of_row hw' (.head _), hok, by (exact hw'.fr)⟩
theorem rest_calls (q : Option Addr) (cap : Nat) (rs : List (List Ty × PY)) (w0 w : World) (hx : Ext w0 w) (hlen : rs.length ≤ 1000000) (h : Arr patsR w0 (low w0) rs q) (hne : ∀ r ∈ rs, r.1 ≠ []) :
  Calls Try.prog 39 [.slice q rs.length cap].toArray w fun e w' => ∃ q' c' ls, e = .returned (.slice q' ls.length c') ∧ ls.map Prod.fst = rest (rs.map Prod.fst) ∧ ls.length ≤ rs.length ∧ ls.length ≤ c' ∧ FrS w w' (cat patsR.c ls) q' ∧ (∀ r ∈ ls, patsR.ok w0 (low w0) r.1 r.2) ∧ Ext w w' := by
 refine enter Try.func39 rfl Try.ntmps39 rfl (Cls.start2 hx) ?_
 have hxs := hx.size
 (simp only [argEnv, Nat.zero_add, Nat.reduceAdd])
 apply W.sr
 apply oas; rfl; rfl
 apply OL.nsr
 apply oas; rfl; rfl
 apply OL.nx
 apply W.seq
 apply W.sr
 apply omv; rfl; rfl
 apply oop; rfl; apply Pev.len_slice; rfl; exact yes; rfl
 apply omv; rfl; rfl
 apply OL.nx
 apply W.block
 refine W.loop (G := Nat × GL) (fun g => g.1 ≤ rs.length ∧ g.2.ps.map Prod.fst = rest ((rs.take g.1).map Prod.fst) ∧ g.2.ps.length ≤ g.1 ∧ ∀ p ∈ g.2.ps, patsR.ok w0 (low w0) p.1 p.2) (fun g => rs.length - g.1)
  (fun g => [(3, true, .slice g.2.q g.2.ps.length g.2.c), (6, true, .slice q rs.length cap), (7, true, .int .i64 (rs.length : Int)), (8, true, .int .i64 (g.1 : Int))])
  (fun g => Cls [row w.heap.size g.2.O g.2.q g.2.ps.length g.2.c 25 1 (cat patsR.c g.2.ps)] [w, w0]) (0, ⟨fun _ => False, none, 0, []⟩) ⟨Nat.zero_le _, rfl, Nat.le_refl _, fun p hp => by cases hp⟩ (by exact Sub.au) (fun w' hw' => hw'.row_nil w.heap.size 25 1) ?_
 rintro ⟨i, O, q1, c1, ps⟩ ⟨hi, hps, hpl, hok⟩
 simp only at hi hps hpl hok ⊢
 apply W.sr
 apply obn; rfl; rfl; rfl; apply Bin.lss
 apply OL.nx
 apply W.seq
 (refine W.cnd (fun hlt => ?_) (fun hlt => ?_)) <;> (try (exfalso; first | omega | exact hlt trivial | contradiction))
 ·obtain ⟨a, a2, z, pt, y, rfl, hab, hu, hcell, hab2, hcell2, harr, hyc, hyl⟩ := row_head h (show i < rs.length by omega) hne
  have hstep := rest_step hu
  rw [← hps] at hstep
  apply W.sk
  apply W.sb
  apply W.sr
  apply oop; rfl; apply Pev.idx; rfl; exact yes; rfl; exact yes; rfl; rfl; intro hcond; omega
  apply oop; rfl; apply Pev.load_kept; rfl; exact yes; exact .tail _ (.head _); rfl; intro hcond; assumption; intro hcond; (rw [add_block]; assumption); intro hcond; exact NotOwned.au
  apply oas; rfl; rfl
  apply OL.nsr
  apply omv; rfl; rfl
  apply oop; rfl; apply Pev.idx; rfl; exact yes; rfl; exact yes; rfl; rfl; intro hcond; (simp only [Bool.and_eq_true, Bool.or_eq_true, Bool.not_eq_true', decide_eq_true_eq, decide_eq_false_iff_not] at *; omega)
  apply oop; rfl; apply Pev.load_keptA; rfl; exact yes; exact .tail _ (.head _); rfl; intro hcond; assumption; rfl; intro hcond; assumption; intro hcond; exact NotOwned.au
  (((first | (with_reducible apply OL.op) | (with_reducible apply QL.op)); (exact Guard.au); rfl; rfl); (exact Pev.call (v := .bool (free z.1)) rfl (by exact Args.au) (fun _ w2 hw2 => (free_calls z.1 z.2 w2).mono (fun e w3 h => ⟨h.1, hw2.ext h.2⟩))))
  apply OL.nx
  refine W.cond rfl (fun hf => ?_) (fun hf => ?_)
  ·have hf : free z.1 = true := by simpa using hf
   obtain ⟨u, hu2⟩ : ∃ u : List Ty × PY, u = (pt.map Prod.fst, (cutq (some a2) y.2 1 4, y.2 - 1)) := ⟨_, rfl⟩
   have huok : patsR.ok w0 (low w0) u.1 u.2 := by
    rw [hu2]
    refine ⟨⟨pt, rfl, ?_⟩, by rw [List.length_map]; show pt.length ≤ y.2 - 1; omega, by rw [List.length_map]; omega⟩
    have := Arr.drop harr (cap := y.2) (by simpa using hyc) 1
    exact this
   have e1 : ps.length + 1 = (ps ++ [u]).length := by simp
   have e2 : cat patsR.c ps ++ [Value.slice (cutq (some a2) y.2 1 4) (pt.length + 1 - 1) (y.2 - 1)] = cat patsR.c (ps ++ [u]) := by
    rw [cat_append, hu2]
    simp only [cat, List.append_nil]
    show _ = _ ++ [Value.slice (cutq (some a2) y.2 1 4) (List.map Prod.fst pt).length (y.2 - 1)]
    rw [List.length_map, Nat.add_sub_cancel]
   apply W.reg
   apply omv; rfl; rfl
   apply omv; rfl; rfl
   apply oop; rfl; apply Pev.slice_lo; rfl; exact yes; rfl; exact yes; rfl; rfl; intro hcond; (simp only [Bool.and_eq_true, Bool.or_eq_true, Bool.not_eq_true', decide_eq_true_eq, decide_eq_false_iff_not] at *; omega)
   apply OL.buildSlice; rfl; rfl; rfl; exact Elems.au; rfl; rfl; (intro bk hbk; simp only [AllLe, and_true] at hbk)
   apply OL.append; rfl; rfl; rfl; rfl; exact Hole.au; exact .head _; exact Take.au; rfl; rfl; exact ⟨_, .head _, Nat.le_refl _⟩; omega; intro O1 g1 cap1
   apply oas; rfl; rfl
   apply OL.nil
   with_reducible apply At.in_normal
   with_reducible apply At.next
   apply W.reg
   apply obn; rfl; rfl; rfl; apply Bin.add_in; omega
   apply omv; rfl; rfl
   apply OL.nil
   rw [e1, e2]
   exact At.again (i + 1, ⟨O1, some ⟨g1, 0, none⟩, cap1, ps ++ [u]⟩) ⟨by simp only; omega, by simp only [hstep, hf, hu2]; simp, by simp only [← e1]; omega, fun p hp => (List.mem_append.1 hp).elim (hok p) (fun hp => by rw [List.mem_singleton] at hp; rw [hp]; exact huok)⟩ (by simp only; omega) (by exact Sub.au) (fun w' hw' => hw'.thin (by exact Thin.au))
  ·have hf : free z.1 = false := by simpa using hf
   apply W.skip
   with_reducible apply At.in_normal
   with_reducible apply At.next
   apply W.reg
   apply obn; rfl; rfl; rfl; apply Bin.add_in; omega
   apply omv; rfl; rfl
   apply OL.nil
   exact At.again (i + 1, ⟨O, q1, c1, ps⟩) ⟨by simp only; omega, by simp only [hstep, hf]; simp, by simp only; omega, hok⟩ (by simp only; omega) (by exact Sub.au) (fun w' hw' => hw'.thin (by exact Thin.au))
 ·obtain rfl : i = rs.length := by omega
  rw [List.take_length] at hps
  refine W.xt ?_
  with_reducible apply At.next
  apply W.sr
  apply omv; rfl; rfl
  apply oas; rfl; rfl
  apply OL.nx
  apply W.ret
  ((with_reducible apply At.fin1); rfl; rfl; intro w' hw')
  exact ⟨q1, c1, ps, rfl, hps, hpl, row_cap (hw'.item (.head _)), FrS.of_row hw' (.head _), hok, by (exact hw'.fr)⟩
end Go.Proofs.Ytleggdmhihcafaa.pt

/- Slices of ints; the walks of the reference's SameInts and HasInt. Conditions: none. -/
namespace Go.Pt
open Go.Eng Go.RowKit
def intV (l : List Int) : List Value := l.map fun x => .int .i64 x
theorem intV_length (l : List Int) : (intV l).length = l.length := by simp [intV]
theorem intV_get {l : List Int} {i : Nat} {x : Int} (h : l[i]? = some x) : (intV l)[i]? = some (.int .i64 x) := by simp [intV, h]
theorem intV_append (l m : List Int) : intV (l ++ m) = intV l ++ intV m := by simp [intV]
def IntsO (w : World) (O : Nat → Prop) (l : List Int) (q : Option Addr) : Prop := 0 < l.length → ∃ a, q = some a ∧ O a.block ∧ CellsAt w a (intV l)
theorem IntsO.stab {w w' : World} {O : Nat → Prop} {l : List Int} {q : Option Addr} (hk : ∀ k, O k → w'.heap[k]? = w.heap[k]?) (h : IntsO w O l q) : IntsO w' O l q := fun hl => by
 obtain ⟨a, h1, h2, h3⟩ := h hl
 exact ⟨a, h1, h2, cells_stab (hk _ h2) h3⟩
theorem IntsO.mono {w : World} {O O' : Nat → Prop} {l : List Int} {q : Option Addr} (hk : ∀ k, O k → O' k) (h : IntsO w O l q) : IntsO w O' l q := fun hl => by
 obtain ⟨a, h1, h2, h3⟩ := h hl
 exact ⟨a, h1, hk _ h2, h3⟩
theorem IntsO.nil {w : World} {O : Nat → Prop} {q : Option Addr} : IntsO w O [] q := fun h => by simp at h
theorem IntsO.get {w : World} {O : Nat → Prop} {l : List Int} {q : Option Addr} (h : IntsO w O l q) {i : Nat} (hi : i < l.length) : ∃ a u, q = some a ∧ O a.block ∧ l[i]? = some u ∧ w.cell? (a.add (i * 1)) = some (.int .i64 u) := by
 obtain ⟨a, h1, h2, h3⟩ := h (by omega)
 have hu : l[i]? = some l[i] := List.getElem?_eq_getElem hi
 exact ⟨a, l[i], h1, h2, hu, by rw [Nat.mul_one]; exact h3 i _ (intV_get hu)⟩
theorem IntsO.slAt {w : World} {l : List Int} {q : Option Addr} (h : IntsO w (low w) l q) : SlAt w w.heap.size q (intV l) := fun hv => by
 rw [intV_length] at hv
 exact h hv
theorem IntsO.at {w w' : World} {l : List Int} {q : Option Addr} {H : List Eng.Item} {S : List World} (h : IntsO w (low w) l q) (hw : Cls H S w') (hs : w ∈ S) (hno : ∀ k, k < w.heap.size → NotOwned H k) : IntsO w' (low w') l q :=
 IntsO.mono (hw.up hs) (IntsO.stab (hw.same hs hno) h)
theorem IntsO.ext {w w' : World} {l : List Int} {q : Option Addr} (h : IntsO w (low w) l q) (hx : Ext w w') : IntsO w' (low w') l q :=
 IntsO.mono (fun k hk => Nat.lt_of_lt_of_le hk hx.size) (IntsO.stab (fun k hk => hx.block k hk id) h)
end Go.Pt
namespace Go.Proofs.Ytleggdmhihcafaa.pt
open Go.RowKit Go.Eng Go.Pt
set_option maxRecDepth 100000
theorem SameInts_calls (q q2 : Option Addr) (cap cap2 : Nat) (l m : List Int) (w : World) (hl : l.length ≤ 9223372036854775807) (hm : m.length ≤ 9223372036854775807) (h : IntsO w (low w) l q) (h2 : IntsO w (low w) m q2) :
  Calls Try.prog 12 #[.slice q l.length cap, .slice q2 m.length cap2] w fun e w' => e = .returned (.bool (decide (l = m))) ∧ Ext w w' := by
 refine enter Try.func12 rfl Try.ntmps12 rfl (Cls.start w) ?_
 (simp only [argEnv, Nat.zero_add, Nat.reduceAdd])
 apply W.sr
 apply oas; rfl; rfl
 apply OL.nx
 apply W.seq
 apply W.sr
 apply omv; rfl; rfl
 apply oop; rfl; apply Pev.len_slice; rfl; exact yes; rfl
 apply omv; rfl; rfl
 apply oop; rfl; apply Pev.len_slice; rfl; exact yes; rfl
 apply obn; rfl; rfl; rfl; apply Bin.neq
 apply OL.nx
 (refine W.cnd (fun hne => ?_) (fun hne => ?_)) <;> (try (exfalso; first | omega | exact hne trivial | contradiction))
 ·have hd : decide (l = m) = false := decide_eq_false (fun e => by subst e; omega)
  rw [hd]
  apply W.sr
  apply oas; rfl; rfl
  apply OL.nx
  refine W.rt ?_
  ((with_reducible apply At.fin1); rfl; rfl; intro w' hw')
  exact ⟨rfl, by (exact hw'.fr)⟩
 have hlm : l.length = m.length := by omega
 apply W.sk
 apply W.seq
 apply W.sr
 apply omv; rfl; rfl
 apply oop; rfl; apply Pev.len_slice; rfl; exact yes; rfl
 apply omv; rfl; rfl
 apply OL.nx
 apply W.block
 refine W.loop (G := Nat) (fun i => i ≤ l.length ∧ l.take i = m.take i) (fun i => l.length - i)
  (fun i => [(1, true, .slice q2 m.length cap2), (12, true, .slice q l.length cap), (13, true, .int .i64 (l.length : Int)), (14, true, .int .i64 (i : Int))])
  (fun i => Cls [] [w]) 0 ⟨by omega, rfl⟩ (by exact Sub.au) (fun w' hw' => hw') ?_
 rintro i ⟨hi, hi0⟩
 apply W.sr
 apply obn; rfl; rfl; rfl; apply Bin.lss
 apply OL.nx
 apply W.seq
 (refine W.cnd (fun hlt => ?_) (fun hlt => ?_)) <;> (try (exfalso; first | omega | exact hlt trivial | contradiction))
 ·have hil : i < l.length := by omega
  obtain ⟨a, x, hqa, hab, hx, hcx⟩ := h.get hil
  have hab : a.block < w.heap.size := hab
  obtain ⟨a2, x2, hqa2, hab2, hx2, hcx2⟩ := h2.get (show i < m.length by omega)
  have hab2 : a2.block < w.heap.size := hab2
  rw [hqa, hqa2]
  apply W.sk
  apply W.sb
  apply W.sr
  apply omv; rfl; rfl
  apply oop; rfl; apply Pev.idx; rfl; exact yes; rfl; exact yes; rfl; rfl; intro hcond; omega
  apply oop; rfl; apply Pev.load_kept; rfl; exact yes; exact .head _; rfl; intro hcond; assumption; intro hcond; (rw [add_block]; assumption); intro hcond; exact NotOwned.au
  apply oas; rfl; rfl
  apply oas; rfl; rfl
  apply OL.nsr
  apply omv; rfl; rfl
  apply omv; rfl; rfl
  apply oop; rfl; apply Pev.idx; rfl; exact yes; rfl; exact yes; rfl; rfl; intro hcond; omega
  apply oop; rfl; apply Pev.load_kept; rfl; exact yes; exact .head _; rfl; intro hcond; assumption; intro hcond; (rw [add_block]; assumption); intro hcond; exact NotOwned.au
  apply omv; rfl; rfl
  apply obn; rfl; rfl; rfl; apply Bin.neq
  apply OL.nx
  (refine W.cnd (fun hxx => ?_) (fun hxx => ?_)) <;> (try (exfalso; first | omega | exact hxx trivial | contradiction))
  ·have hd : decide (l = m) = false := decide_eq_false (fun e => by subst e; rw [hx] at hx2; exact hxx (Option.some.inj hx2).symm)
   rw [hd]
   apply W.sr
   apply oas; rfl; rfl
   apply OL.nx
   refine W.rt ?_
   ((with_reducible apply At.fin1); rfl; rfl; intro w' hw')
   exact ⟨rfl, by (exact hw'.fr)⟩
  ·have hxx' : x2 = x := by simpa using hxx
   apply W.skip
   with_reducible apply At.in_normal
   with_reducible apply At.next
   apply W.reg
   apply obn; rfl; rfl; rfl; apply Bin.add_in; omega
   apply omv; rfl; rfl
   apply OL.nil
   exact At.again (i + 1) ⟨by omega, by rw [List.take_add_one, List.take_add_one, hx, hx2, hi0, hxx']⟩ (by omega) (by exact Sub.au) (fun w' hw' => hw')
 ·obtain rfl : i = l.length := by omega
  have hd : decide (l = m) = true := decide_eq_true (by rw [List.take_length, hlm, List.take_length] at hi0; exact hi0)
  rw [hd]
  refine W.xt ?_
  with_reducible apply At.next
  apply W.sr
  apply oas; rfl; rfl
  apply OL.nx
  apply W.ret
  ((with_reducible apply At.fin1); rfl; rfl; intro w' hw')
  exact ⟨rfl, by (exact hw'.fr)⟩
theorem HasInt_calls (q : Option Addr) (cap : Nat) (l : List Int) (s : Int) (w : World) (hlen : l.length ≤ 9223372036854775807) (h : IntsO w (low w) l q) :
  Calls Try.prog 76 [.slice q l.length cap, .int .i64 s].toArray w fun e w' => e = .returned (.bool (decide (s ∈ l))) ∧ Ext w w' := by
 refine enter Try.func76 rfl Try.ntmps76 rfl (Cls.start w) ?_
 (simp only [argEnv, Nat.zero_add, Nat.reduceAdd])
 apply W.sr
 apply oas; rfl; rfl
 apply OL.nx
 apply W.seq
 apply W.sr
 apply omv; rfl; rfl
 apply oop; rfl; apply Pev.len_slice; rfl; exact yes; rfl
 apply omv; rfl; rfl
 apply OL.nx
 apply W.block
 refine W.loop (G := Nat) (fun i => i ≤ l.length ∧ (s ∈ l ↔ s ∈ l.drop i)) (fun i => l.length - i)
  (fun i => [(1, true, .int .i64 s), (7, true, .slice q l.length cap), (8, true, .int .i64 (l.length : Int)), (9, true, .int .i64 (i : Int))])
  (fun i => Cls [] [w]) 0 ⟨by omega, by simp⟩ (by exact Sub.au) (fun w' hw' => hw') ?_
 rintro i ⟨hi, hrest⟩
 apply W.sr
 apply obn; rfl; rfl; rfl; apply Bin.lss
 apply OL.nx
 apply W.seq
 (refine W.cnd (fun hlt => ?_) (fun hlt => ?_)) <;> (try (exfalso; first | omega | exact hlt trivial | contradiction))
 ·obtain ⟨a, u, rfl, hab, hu, hcell⟩ := h.get (show i < l.length by omega)
  have hab : a.block < w.heap.size := hab
  have hil : i < l.length := by omega
  have hui : l[i] = u := by rw [List.getElem?_eq_getElem hil] at hu; exact Option.some.inj hu
  rw [List.drop_eq_getElem_cons hil, hui, List.mem_cons] at hrest
  apply W.sk
  apply W.sb
  apply W.sr
  apply oop; rfl; apply Pev.idx; rfl; exact yes; rfl; exact yes; rfl; rfl; intro hcond; omega
  apply oop; rfl; apply Pev.load_kept; rfl; exact yes; exact .head _; rfl; intro hcond; assumption; intro hcond; (rw [add_block]; assumption); intro hcond; exact NotOwned.au
  apply oas; rfl; rfl
  apply OL.nsr
  apply omv; rfl; rfl
  apply omv; rfl; rfl
  apply obn; rfl; rfl; rfl; apply Bin.eql
  apply OL.nx
  (refine W.cnd (fun heq => ?_) (fun heq => ?_)) <;> (try (exfalso; first | omega | exact heq trivial | contradiction))
  ·apply W.sr
   apply oas; rfl; rfl
   apply OL.nx
   refine W.rt ?_
   ((with_reducible apply At.fin1); rfl; rfl; intro w' hw')
   exact ⟨by rw [decide_eq_true (hrest.2 (.inl heq.symm))], by (exact hw'.fr)⟩
  ·apply W.skip
   with_reducible apply At.in_normal
   with_reducible apply At.next
   apply W.reg
   apply obn; rfl; rfl; rfl; apply Bin.add_in; omega
   apply omv; rfl; rfl
   apply OL.nil
   exact At.again (i + 1) ⟨by omega, by rw [hrest]; exact or_iff_right (fun e => heq e.symm)⟩ (by omega) (by exact Sub.au) (fun w' hw' => hw')
 ·obtain rfl : i = l.length := by omega
  rw [List.drop_length] at hrest
  have hno : ¬ s ∈ l := fun h => by have := hrest.1 h; cases this
  refine W.xt ?_
  with_reducible apply At.next
  apply W.sr
  apply oas; rfl; rfl
  apply OL.nx
  apply W.ret
  ((with_reducible apply At.fin1); rfl; rfl; intro w' hw')
  exact ⟨by rw [decide_eq_false hno], by (exact hw'.fr)⟩
end Go.Proofs.Ytleggdmhihcafaa.pt

/-
 DERIVED: THE SHELF's CONTRACTS AT THIS DUMP, IN PLAIN WORDS (tools/lay-plain.mjs out of 'YtleggdmhihcafaaShelfD.lean', which tools/lay-shelf.mjs wrote): THE SAME DECLARATIONS UNDER THE SAME NAMES: 'import', 'namespace', 'open', 'def', 'theorem' AND NOTHING ELSE: no command of the shelf's: FOR A HAND-IN. Each laying: the table of numbers ('.._ren') and one theorem, a field a fact of the dump's own or the kernel's comparison; each contract: ONE APPLICATION.
-/
namespace Go.Proofs
open Go.Shelf
def Try.growR_ren : Go.Shelf.Ren := ⟨fun | 4 => 77 | n => n, fun | 22 => 25 | 25 => 50 | 3 => 3 | 4 => 4 | 9 => 9 | 20 => 20 | 0 => 0 | n => n, fun | n => n⟩
theorem Try.growR : Go.Proofs.Lays8.n4 Try.prog Try.growR_ren := {
 mixed := by kernel_rfl
 f4 := ⟨Try.f77.name, by decide, Try.func77.trans (congrArg some (by kernel_rfl))⟩
 t0 := Try.underlying0
 a0 := Try.isAgg0
 z0 := Try.sizeOf0
 v0 := Try.zeroValue0
 t3 := Try.underlying3
 a3 := Try.isAgg3
 z3 := Try.sizeOf3
 v3 := Try.zeroValue3
 t4 := Try.underlying4
 a4 := Try.isAgg4
 z4 := Try.sizeOf4
 v4 := Try.zeroValue4
 t9 := Try.underlying9
 a9 := Try.isAgg9
 z9 := Try.sizeOf9
 v9 := Try.zeroValue9
 t20 := Try.underlying20
 a20 := Try.isAgg20
 z20 := Try.sizeOf20
 v20 := Try.zeroValue20
 t22 := Try.underlying25
 a22 := Try.isAgg25
 z22 := Try.sizeOf25
 v22 := Try.zeroValue25 }
end Go.Proofs

/- Nodes of four cells (two strings, two pointers), each in a block of its own: an item for a table of them; loads, stores of the pointers, new ones, comparisons of pointers. General. No condition. -/
namespace Go.Eng
open Go.RowKit
structure Nd where
 key : ByteArray
 val : ByteArray
 nx : Option Nat
 pr : Option Nat
abbrev NdT := Nat → Option Nd
def ptrO : Option Nat → Value | none => .pointer none | some k => .pointer (some ⟨k, 0, none⟩)
def ndc (x : Nd) : List Value := [.string x.key, .string x.val, ptrO x.nx, ptrO x.pr]
def nds (t : TypeId) (f : NdT) : Item :=
 ⟨fun k => (f k).isSome = true, fun w => ∀ k x, f k = some x → w.heap[k]? = some (.cells (ndc x).toArray t (0, 0)), fun w w' hk h k x hx => (hk k (by simp [hx])).trans (h k x hx)⟩
theorem NotOwned.nds {H : List Item} {t : TypeId} {f : NdT} {k : Nat} (h : f k = none) (r : NotOwned H k) : NotOwned (Eng.nds t f :: H) k := NotOwned.any (fun hm => by
 have hm' : (f k).isSome = true := hm
 rw [h] at hm'; cases hm') r
section
variable {P : Program} {n : Nm} {l : Env} {H : List Item} {S : List World} {C : World → Prop} {c : Bool} {d : Option Nat} {ty : TypeId} {pos : String} {af : Array Edge} {g : Option (Nat × Bool)}
variable {ops : Array Oper} {rest : List Oper} {Q : Exit → Act → World → Prop} {t : TypeId} {x y z : Operand} {cx cy cz : Bool}
theorem row_le {w : World} {base m cap size : Nat} {O : Nat → Prop} {q : Option Addr} {e : TypeId} {xs : List Value} (h : (row base O q m cap e size xs).holds w) : m ≤ cap := by
 rcases h.2.2 with ⟨h3, h4⟩ | ⟨g, cap', cur, h3, hb, hg, h4, h5⟩
 ·omega
 ·simp only [Value.slice.injEq] at h3
  obtain ⟨_, _, rfl⟩ := h3
  exact h4
theorem Thin.row {base m cap size : Nat} {O : Nat → Prop} {q : Option Addr} {e : TypeId} {xs : List Value} {H' : List Item} (hb : AllLe S base) (h : Thin S H H') : Thin S (Eng.row base O q m cap e size xs :: H) H' :=
 Thin.any (fun k hk => by
  have := hb.mem
  have hk' : base ≤ k := hk.1
  clear hk hb h
  induction S with
  | nil => trivial
  | cons s S ih => exact ⟨Nat.le_trans (this s (.head _)) hk', ih fun s hs => this s (.tail _ hs)⟩) h
end
end Go.Eng

/- Rows: a full block is one; one row appended to another; a part of one; results of which the first stands in a block. General. No condition. -/
namespace Go.Eng
open Go.RowKit
section
variable {P : Program} {n : Nm} {l : Env} {H : List Item} {S : List World} {C : World → Prop} {c : Bool} {d : Option Nat} {ty : TypeId} {pos : String} {af : Array Edge} {g : Option (Nat × Bool)}
variable {ops : Array Oper} {rest : List Oper} {Q : Exit → Act → World → Prop}
variable {t : TypeId} {x y z : Operand} {cx cy cz : Bool}
theorem Cls.blk_row {b base m sz : Nat} {e : TypeId} {cs : List Value} {w : World} (h : Cls (blk b e cs :: H) S w) (hb : base ≤ b) (hl : cs.length = m * sz) (hm : m ≤ maxLen) : Cls (row base (fun k => k = b) (some ⟨b, 0, none⟩) m m e sz cs :: H) S w := by
 have hd := List.pairwise_cons.1 h.dj
 have h0 : (blk b e cs).holds w := h.holds _ (.head _)
 refine ⟨fun i hi => ?_, fun i hi => ?_, .cons (fun j hj k hk => hd.1 j hj k hk.2) hd.2, fun s hs => (h.kp s hs).mono fun k _ ⟨j, hj, hjk⟩ => ?_⟩
 ·cases hi with
  | head => exact ⟨fun a ha => by cases ha; rfl, hl, .inr ⟨b, m, cs.toArray, rfl, hb, h0, Nat.le_refl _, hm, by simpa using hl, List.take_of_length_le (by simp [hl])⟩⟩
  | tail _ hi => exact h.holds _ (.tail _ hi)
 ·cases hi with
  | head => exact fun k hk => h.lt _ (.head _) k hk.2
  | tail _ hi => exact h.lt _ (.tail _ hi)
 ·cases hj with
  | head =>
   have hjk' : k = b := hjk
   exact ⟨_, .head _, by rw [hjk']; exact hb, hjk'⟩
  | tail _ hj => exact ⟨_, .tail _ hj, hjk⟩
theorem At.cls {e : Exit} {C' : World → Prop} (hc : ∀ w, C w → C' w) (h : At n Q e l C') : At n Q e l C := ⟨fun a w s c => h.run a w s (hc w c)⟩
end
end Go.Eng

/- Append of a slice that reads, of any length, to a grown row. General. No condition. -/
namespace Go.Eng
open Go.RowKit
section
variable {P : Program} {n : Nm} {l : Env} {H : List Item} {S : List World} {C : World → Prop} {ty : TypeId} {pos : String} {af : Array Edge}
variable {ops : Array Oper} {rest : List Oper} {Q : Exit → Act → World → Prop} {t : TypeId} {x y : Operand}
theorem run_append_src_nil2 {w : World} {ty e : TypeId} {i : TypeInfo} {q : Option Addr} {m cap cap2 : Nat} (ht : P.underlying t = some (.slice e)) (hi : P.info? e = some i) (hc : m ≤ cap) :
  (Builtin.append_ #[t, t] ty #[.slice q m cap, .slice none 0 cap2]).run P w = .ok (.slice q m cap) w := by
 cases q <;> simp [Builtin.append_, run_underlying ht, sizeOf, typeInfo, hi, Builtin.lenOf, hc, Builtin.firstCells, loadCells, loadCellsFrom, storeCells]
theorem OL.appendK {F : Item → List Item} {e : TypeId} {dd sz bb p m cap cap2 m2 base : Nat} {O : Nat → Prop} {q q2 : Option Addr} {xs news : List Value}
  (hx : evl l x = some (true, .slice q m cap)) (hy : evl l y = some (true, .slice q2 m2 cap2)) (hn : Nat.ble (dd + 1) n.n = true)
  (hu : rowElem P t = some (e, sz, bb)) (hp' : Hole p H (row base O q m cap e sz xs) F) (hsl : ∀ w, Cls H S w → SlAt w w.heap.size q2 news) (hl : news.length = m2 * sz) (h1 : oneL news = true)
  (hs : ∃ s ∈ S, base ≤ s.heap.size) (hlim : (m + m2) ≤ 9223372036854775807 ∧ (m + m2) * bb ≤ 140737488355328)
  (k : ∀ (O' : Nat → Prop) (q' : Option Addr) (cap' : Nat), OL P n ops Q rest ((dd, true, .slice q' (m + m2) cap') :: l) (Cls (F (row base O' q' (m + m2) cap' e sz (xs ++ news))) S)) :
  OL P n ops Q (⟨some dd, .call { callee := .builtin .append, args := #[x, y], argTypes := #[t, t] }, ty, pos, af, none⟩ :: rest) l (Cls H S) := by
 have hp := hp'.eq.1
 have hF := hp'.eq.2
 refine OL.newT (α := (Nat → Prop) × Option Addr × Nat) (C' := fun r w => Cls (H.set p (row base r.1 r.2.1 (m + m2) r.2.2 e sz (xs ++ news))) S w) rfl rfl hn (fun r => .slice r.2.1 (m + m2) r.2.2) (fun a w hs' hc => ?_) (fun r => by rw [← hF]; exact k r.1 r.2.1 r.2.2)
 obtain ⟨i, z, g1, g2, g3, g4, g5, g6, g7⟩ := rowElem_spec hu
 obtain ⟨s, hsm, hsb⟩ := hs
 have hbw : base ≤ w.heap.size := Nat.le_trans hsb (hc.kp s hsm).size
 have hi := hc.item (List.mem_of_getElem? hp)
 cases q2 with
 | none =>
  have hm2 : news = [] := by
   cases news with
   | nil => rfl
   | cons v r =>
    obtain ⟨a, ha, _⟩ := hsl w hc (by simp)
    cases ha
  subst hm2
  have hm0 : m2 = 0 := by
   rcases Nat.eq_zero_or_pos m2 with h0 | h0
   ·exact h0
   ·have := Nat.mul_pos h0 g7
    simp at hl
    omega
  subst hm0
  refine ⟨(O, q, cap), w, ?_, ?_⟩
  ·simp only [execOp, resolve, invoke, builtin, Sem.run_bind, Sem.run_pure, Result.andThen_ok, List.map_toArray, List.map_cons, List.map_nil, hs'.eval hx rfl, hs'.eval hy rfl, run_append_src_nil2 (P := P) (cap2 := cap2) (w := w) (ty := ty) (q := q) g1 g2 (row_le hi)]
   rfl
  ·simp only [List.append_nil, Nat.add_zero]
   rwa [set_same hp]
 | some ad =>
  have hnews : ∀ j u, news[j]? = some u → w.cell? (ad.add j) = some u := fun j u hj => by
   obtain ⟨a, ha, _, hca⟩ := hsl w hc (by have := (List.getElem?_eq_some_iff.1 hj).1; omega)
   obtain rfl := Option.some.inj ha
   exact hca j u hj
  obtain ⟨v', w', hr, h2, h3, h4, h5⟩ := run_append_own_at (P := P) (w := w) base t ty e i z sz bb g1 g2 g3 g4 g5 g6 g7 _ m xs hi.2 ad m2 cap2 news hl hnews (fun u hu => oneL_mem h1 u hu) hlim.1 hlim.2 hbw
  have hown : ∀ k, some k = (Value.slice q m cap).ownBlock → base ≤ k ∧ O k := fun k hk => by
   cases q with
   | none => simp [Value.ownBlock] at hk
   | some a =>
    simp only [Value.ownBlock, Option.some.injEq] at hk
    subst hk
    exact ⟨(World.ownsRow.lt hi.2 _ rfl).1, hi.1 _ rfl⟩
  rcases h2.2 with ⟨rfl, h0⟩ | ⟨g', cap', cur, rfl, hb', hg', hrest⟩
  ·refine ⟨(O, none, 0), w', ?_, ?_⟩
   ·simp only [execOp, resolve, invoke, builtin, Sem.run_bind, Sem.run_pure, Result.andThen_ok, List.map_toArray, List.map_cons, List.map_nil, hs'.eval hx rfl, hs'.eval hy rfl, hr, h0]
   ·rw [h0] at h2 ⊢
    refine hc.turn p hp (j := row base O none 0 0 e sz (xs ++ news)) ⟨h3.os, h3.tape, h3.output, h3.size, fun k hk hO => h3.block k hk (fun e => hO (hown k e))⟩ ⟨fun a ha => (by cases ha), h2⟩ (fun k hk => ⟨.inl hk, Nat.lt_of_lt_of_le (hc.lt _ (List.mem_of_getElem? hp) k hk) h3.size⟩) (fun k hk => hk)
  ·refine ⟨(fun k => O k ∨ k = g', some ⟨g', 0, none⟩, cap'), w', ?_, ?_⟩
   ·simp only [execOp, resolve, invoke, builtin, Sem.run_bind, Sem.run_pure, Result.andThen_ok, List.map_toArray, List.map_cons, List.map_nil, hs'.eval hx rfl, hs'.eval hy rfl, hr]
   ·refine hc.turn p hp (j := row base (fun k => O k ∨ k = g') (some ⟨g', 0, none⟩) (m + m2) cap' e sz (xs ++ news)) ⟨h3.os, h3.tape, h3.output, h3.size, fun k hk hO => h3.block k hk (fun e => hO (hown k e))⟩ ?_ ?_ ?_
    ·exact ⟨fun a ha => by cases ha; exact .inr rfl, h2⟩
    ·intro k hk
     have hlt : g' < w'.heap.size := (Array.getElem?_eq_some_iff.1 hg').1
     rcases hk.2 with h | h
     ·exact ⟨.inl ⟨hk.1, h⟩, Nat.lt_of_lt_of_le (hc.lt _ (List.mem_of_getElem? hp) k ⟨hk.1, h⟩) h3.size⟩
     ·subst h
      refine ⟨?_, hlt⟩
      rcases h5 with h5 | h5
      ·exact .inl (hown k (by rw [← h5]; rfl))
      ·simp only [Value.ownBlock, Option.some.injEq] at h5
       exact .inr (by omega)
    ·exact fun k hk => ⟨hk.1, .inl hk.2⟩
end
end Go.Eng

/- The walks of slices.Clone, DeleteFunc and Concat at []api.Pat. Conditions: none. -/
namespace Go.Proofs.Ytleggdmhihcafaa.pt
open Go.RowKit Go.Eng Go.Pt
set_option maxRecDepth 100000
theorem pat_len (p : Ty × PY) : (tyR.c p).length = 4 := rfl
theorem pat_one (p : Ty × PY) : oneL (tyR.c p) = true := rfl
theorem Clone_calls (q : Option Addr) (cap : Nat) (l : List (Ty × PY)) (w : World) (hlen : l.length ≤ 100000) (h : SlAt w w.heap.size q (cat tyR.c l)) :
  Calls Try.prog 41 #[.slice q l.length cap] w fun e w' => ∃ (q' : Option Addr) (cap' : Nat), e = .returned (.slice q' l.length cap') ∧ Ext w w' ∧
   (0 < l.length → ∃ (g : Nat) (rest : List Value), q' = some ⟨g, 0, none⟩ ∧ w.heap.size ≤ g ∧ (blk g 50 (cat tyR.c l ++ rest)).holds w' ∧ (cat tyR.c l ++ rest).length = cap' * 4) := by
 refine enter Try.func41 rfl Try.ntmps41 rfl (Cls.start w) ?_
 (simp only [argEnv, Nat.zero_add, Nat.reduceAdd])
 apply W.sr
 apply oas; rfl; rfl
 apply OL.nx
 apply W.seq
 apply W.sr
 apply omv; rfl; rfl
 apply obn; rfl; rfl; rfl; apply Bin.slice_nil; rfl
 apply OL.nx
 cases q with
 | none =>
  refine W.cond rfl (fun _ => ?_) (fun hc => by cases hc)
  have hl0 : l.length = 0 := by
   rcases Nat.eq_zero_or_pos l.length with h0 | h0
   ·exact h0
   ·obtain ⟨a, x, he, _⟩ := h.elem pat_len (by decide) h0
    cases he
  rw [hl0]
  apply W.sr
  apply oas; rfl; rfl
  apply OL.nx
  refine W.rt ?_
  ((with_reducible apply At.fin1); rfl; rfl; intro w' hw')
  exact ⟨none, 0, rfl, by (exact hw'.fr), fun h0 => by omega⟩
 | some a =>
  refine W.cond rfl (fun hc => by cases hc) (fun _ => ?_)
  apply W.sk
  apply W.sr
  apply OL.buildSlice; rfl; rfl; rfl; exact Elems.au; rfl; rfl; (intro bk hbk; simp only [AllLe, and_true] at hbk)
  apply omv; rfl; rfl
  refine OL.appendNew (news := cat tyR.c l) rfl rfl rfl rfl (by exact mau) (fun w2 hw2 j v hj => ?_) (cat_length pat_len l) (cat_oneL pat_one l) ⟨by unfold maxLen; omega, by omega⟩ (fun q' cap' => ?_)
  ·obtain ⟨a', he, hab, hc⟩ := (h.keep (hw2.below (s := w) (by exact mau) (Nat.le_refl _) (fun k hk => by exact NotOwned.au)) (hw2.kp w (by exact mau)).size) (Nat.lt_of_le_of_lt (Nat.zero_le _) (List.getElem?_eq_some_iff.1 hj).1)
   cases he
   exact hc j v hj
  apply oas; rfl; rfl
  apply OL.nx
  apply W.ret
  ((with_reducible apply At.fin1); rfl; rfl; intro w' hw')
  obtain ⟨w0, hw0, hk, hown⟩ := hw'
  have hx : Ext w w' := Ext_keep (hw0.toExt (s := w) (by exact mau) (fun k hk => by exact NotOwned.au)) hk hbk
  refine ⟨q', cap', rfl, hx, fun h0 => ?_⟩
  rcases hown.2 with ⟨_, h1⟩ | ⟨g, cap1, cur, he, hg, hh, h1, h2, h3, h4⟩
  ·omega
  ·simp only [Value.slice.injEq] at he
   obtain ⟨rfl, _, rfl⟩ := he
   have hl4 : cat tyR.c l = cur.toList.take (l.length * 4) := by rw [← h4]
   refine ⟨g, cur.toList.drop (l.length * 4), rfl, Nat.le_trans hbk hg, ?_, ?_⟩
   ·rw [hl4, List.take_append_drop]
    exact hh
   ·rw [hl4, List.take_append_drop]
    simpa using h3
theorem DeleteFunc_calls (g cap : Nat) (l : List (Ty × PY)) (rest : List Value) (f : FuncId) (first caps : List Value) (p : Ty → Bool) (w : World) (hlen : l.length ≤ 100000) (hb : (blk g 50 (cat tyR.c l ++ rest)).holds w) (hcap : (cat tyR.c l ++ rest).length = cap * 4)
  (hf : callable Try.prog f = true) (hp : ∀ s ∈ l, ∀ w', Calls Try.prog f (first ++ [Value.agg (tyc s.1 s.2).toArray] ++ caps).toArray w' fun e w'' => e = .returned (.bool (p s.1)) ∧ Ext w' w'') :
  Calls Try.prog 69 #[.slice (some ⟨g, 0, none⟩) l.length cap, .func (.func f) first.toArray caps.toArray] w fun e w' => e = .returned (.slice (some ⟨g, 0, none⟩) (l.filter (fun x => !p x.1)).length cap) ∧
   ∃ rest', (blk g 50 (cat tyR.c (l.filter (fun x => !p x.1)) ++ rest')).holds w' ∧ (cat tyR.c (l.filter (fun x => !p x.1)) ++ rest').length = cap * 4 ∧ Keep (fun k => k = g) w w' := by
 have hlc : l.length ≤ cap := by
  rw [List.length_append, cat_length pat_len] at hcap; omega
 refine enter Try.func69 rfl Try.ntmps69 rfl (Cls.start_blk hb) ?_
 (simp only [argEnv, Nat.zero_add, Nat.reduceAdd])
 apply W.sr
 apply oas; rfl; rfl
 apply OL.nsr
 apply omv; rfl; rfl
 apply omv; rfl; rfl
 (((first | (with_reducible apply OL.op) | (with_reducible apply QL.op)); (exact Guard.au); rfl; rfl); (exact Pev.call rfl (by exact Args.au) (fun _ w2 hw2 => (IndexFunc_calls (some ⟨g, 0, none⟩) cap l f first caps p w2 (by omega) (SlAt.of_blk (o := 0) (hw2.item (i := blk g 50 (cat tyR.c l ++ rest)) (by exact mau)) (fun j v hj => by rw [Nat.zero_add, List.getElem?_append_left (List.getElem?_eq_some_iff.1 hj).1]; exact hj)) hf (fun s hs w3 _ => hp s hs w3)).mono (fun e w3 h => ⟨h.1, hw2.ext h.2⟩))))
 apply oas; rfl; rfl
 apply OL.nx
 apply W.seq
 apply W.sr
 apply omv; rfl; rfl
 apply obn; rfl; rfl; rfl; apply Bin.eql
 apply OL.nx
 rw [idxF_P]
 rcases idxP_cases (fun x : Ty × PY => p x.1) l 0 with ⟨hm1, hall⟩ | ⟨k0, x0, hx0, hpx, hk0, hbef⟩
 ·rw [hm1]
  refine W.cond rfl (fun _ => ?_) (fun hc => by simp at hc)
  apply W.sr
  apply omv; rfl; rfl
  apply oas; rfl; rfl
  apply OL.nx
  refine W.rt ?_
  ((with_reducible apply At.fin1); rfl; rfl; intro w' hw')
  have hfl : l.filter (fun x => !p x.1) = l := List.filter_eq_self.2 (fun x hx => by rw [hall x hx]; rfl)
  rw [hfl]
  exact ⟨rfl, rest, hw'.item (by exact mau), hcap, by (exact hw'.toKeep (by exact mau) (fun k hk (hO : ¬ k = g) => by exact NotOwned.au))⟩
 ·have hk0l := (List.getElem?_eq_some_iff.1 hx0).1
  rw [hk0, Nat.zero_add]
  refine W.cond rfl (fun hc => by simp at hc) (fun _ => ?_)
  apply W.sk
  apply W.seq
  apply W.sr
  apply omv; rfl; rfl
  apply obn; rfl; rfl; rfl; apply Bin.add_in; omega
  apply oas; rfl; rfl
  apply OL.nx
  apply W.block
  have hstart : (l.take (k0 + 1)).filter (fun x => !p x.1) = l.take k0 := by
   rw [List.take_add_one, hx0, List.filter_append, List.filter_eq_self.2 (fun x hx => by rw [hbef x hx]; rfl)]
   simp [hpx]
  refine W.loop (G := Nat × List Value) (fun j => j.1 ≤ l.length ∧ ((l.take j.1).filter (fun x => !p x.1)).length < j.1 ∧ j.2.length = cap * 4 ∧ j.2.take (((l.take j.1).filter (fun x => !p x.1)).length * 4) = cat tyR.c ((l.take j.1).filter (fun x => !p x.1)) ∧ j.2.drop (j.1 * 4) = (cat tyR.c l ++ rest).drop (j.1 * 4)) (fun j => l.length - j.1)
   (fun j => [(6, true, .int .i64 (j.1 : Int)), (5, true, .int .i64 (((l.take j.1).filter (fun x => !p x.1)).length : Int)), (0, true, .slice (some ⟨g, 0, none⟩) l.length cap), (1, true, .func (.func f) first.toArray caps.toArray)])
   (fun j => Cls [blk g 50 j.2] [w]) (k0 + 1, cat tyR.c l ++ rest) ⟨by simp only; omega, by rw [hstart, List.length_take]; omega, hcap, by
    simp only [hstart]
    rw [List.length_take, Nat.min_eq_left (by omega), List.take_append_of_le_length (by rw [cat_length pat_len]; omega), cat_take pat_len], rfl⟩ (by simp only [hstart, List.length_take, Nat.min_eq_left (Nat.le_of_lt hk0l)]; exact Sub.au) (fun w' hw' => hw') ?_
  rintro ⟨j, c⟩ ⟨hjl, hkj, hcl, hct, hcd⟩
  simp only at hjl hkj hcl hct hcd ⊢
  generalize hkd : (l.take j).filter (fun x => !p x.1) = kept at hkj hct ⊢
  apply W.seq
  apply W.sr
  apply omv; rfl; rfl
  apply omv; rfl; rfl
  apply oop; rfl; apply Pev.len_slice; rfl; exact yes; rfl
  apply obn; rfl; rfl; rfl; apply Bin.lss
  apply OL.nx
  (refine W.cnd (fun hlt => ?_) (fun hlt => ?_)) <;> (try (exfalso; first | omega | exact hlt trivial | contradiction))
  ·have hjl2 : j < l.length := by omega
   have hu : l[j]? = some l[j] := List.getElem?_eq_getElem hjl2
   generalize hue : l[j] = u at hu
   have hcu : ∀ (k : Nat) (v : Value), (tyR.c u)[k]? = some v → c[j * 4 + k]? = some v := fun k v hk => by
    have h1 := cat_get pat_len hu k v hk
    have h2 : ((cat tyR.c l ++ rest).drop (j * 4))[k]? = some v := by
     rw [List.getElem?_drop, List.getElem?_append_left (List.getElem?_eq_some_iff.1 h1).1]; exact h1
    rw [← hcd, List.getElem?_drop] at h2
    exact h2
   have hnext : (l.take (j + 1)).filter (fun x => !p x.1) = if p u.1 then kept else kept ++ [u] := by
    rw [List.take_add_one, hu, List.filter_append, hkd]
    cases hpu : p u.1 <;> simp [hpu]
   apply W.sk
   apply W.sb
   apply W.sr
   apply omv; rfl; rfl
   apply omv; rfl; rfl
   apply oop; rfl; apply Pev.idxB; rfl; exact yes; rfl; exact yes; rfl; intro hcond; omega; rfl
   (((first | (with_reducible apply OL.op) | (with_reducible apply QL.op)); (exact Guard.au); rfl; rfl); (refine Pev.load_clsA (vs := tyR.c u) rfl (by (first | exact fun _ => rfl | exact fun h => h | (intro h; simp_all; done))) rfl rfl (fun _ w2 hw2 k v hk => ?_)))
   ·rw [add_mid, blk_cell (hw2.item (i := blk g 50 c) (by exact mau))]
    have := hcu k v hk
    rwa [show 0 + (j : Int).toNat * 4 + k = j * 4 + k by omega]
   apply OL.alloc; rfl; rfl; exact CellsL.agg; (intro bk hbk; simp only [AllLe, and_true] at hbk)
   apply OL.storeB; rfl; rfl; exact CellsL.agg; rfl; rfl; rfl; exact Swap.au; exact Put.au
   apply OL.nsr
   apply omv; rfl; rfl
   apply oop; rfl; apply Pev.load_blkA; rfl; exact yes; exact .head _; rfl; exact Take.au
   (((first | (with_reducible apply OL.op) | (with_reducible apply QL.op)); (exact Guard.au); rfl; rfl); (apply Pev.callv (first := first) (cap := caps) (vs := [Value.agg (tyc u.1 u.2).toArray])); rfl; ((first | exact fun _ => rfl | exact fun h => h | (intro h; simp_all; done))); (exact hf); (exact Args.au); (exact (fun _ w2 hw2 => (hp u (List.mem_of_getElem? hu) w2).mono (fun e w3 h => ⟨h.1, hw2.ext h.2⟩))))
   apply oop; rfl; apply Pev.not; rfl; exact yes
   apply OL.nx
   refine W.cond rfl (fun hc => ?_) (fun hc => ?_)
   ·have hpu : p u.1 = false := by simpa using hc
    rw [hpu] at hnext
    simp only [Bool.false_eq_true, if_false] at hnext
    apply W.sr
    apply omv; rfl; rfl
    apply omv; rfl; rfl
    apply oop; rfl; apply Pev.load_blkA; rfl; exact yes; exact .head _; rfl; exact Take.au
    apply oop; rfl; apply Pev.idxB; rfl; exact yes; rfl; exact yes; rfl; intro hcond; omega; rfl
    rw [show 0 + (kept.length : Int).toNat * 4 = kept.length * 4 by omega]
    (refine OL.storeL (vs := tyR.c u) (p := 1) rfl rfl rfl rfl rfl rfl ⟨by rw [hcl]; simp only [pat_len]; omega, rfl⟩ (by exact Swap.au) ?_)
    have hf2 : kept.length * 4 + (tyR.c u).length ≤ c.length := by rw [hcl, pat_len]; omega
    apply OL.nx
    apply W.reg
    apply omv; rfl; rfl
    apply obn; rfl; rfl; rfl; apply Bin.add_in; omega
    apply oas; rfl; rfl
    apply OL.nil
    with_reducible apply At.in_normal
    with_reducible apply At.next
    apply W.reg
    apply omv; rfl; rfl
    apply obn; rfl; rfl; rfl; apply Bin.add_in; omega
    apply oas; rfl; rfl
    apply OL.nil
    refine At.again (j + 1, putL c (kept.length * 4) (tyR.c u)) ⟨by simp only; omega, by simp only [hnext, List.length_append, List.length_cons, List.length_nil]; omega, by simp only [putL_length']; exact hcl, ?_, ?_⟩ (by simp only; omega) ?_ (fun w' hw' => hw'.thin (by exact Thin.au))
    ·simp only [hnext, List.length_append, List.length_cons, List.length_nil, Nat.zero_add, Nat.add_mul, Nat.one_mul]
     rw [show kept.length * 4 + 4 = kept.length * 4 + (tyR.c u).length from rfl, putL_take2 hf2, hct, cat_append, cat_one]
    ·simp only
     rw [putL_drop hf2 (by rw [pat_len]; omega), show (j + 1) * 4 = j * 4 + 4 by omega, ← List.drop_drop, hcd, List.drop_drop]
    ·simp only [hnext, List.length_append, List.length_cons, List.length_nil, Nat.zero_add]; exact Sub.au
   ·have hpu : p u.1 = true := by simpa using hc
    rw [hpu, if_pos rfl] at hnext
    apply W.skip
    with_reducible apply At.in_normal
    with_reducible apply At.next
    apply W.reg
    apply omv; rfl; rfl
    apply obn; rfl; rfl; rfl; apply Bin.add_in; omega
    apply oas; rfl; rfl
    apply OL.nil
    refine At.again (j + 1, c) ⟨by simp only; omega, by simp only [hnext]; omega, hcl, by simp only [hnext]; exact hct, ?_⟩ (by simp only; omega) (by simp only [hnext]; exact Sub.au) (fun w' hw' => hw'.thin (by exact Thin.au))
    simp only
    rw [show (j + 1) * 4 = j * 4 + 4 by omega, ← List.drop_drop, hcd, List.drop_drop]
  ·obtain rfl : j = l.length := by omega
   rw [List.take_length] at hkd
   rw [hkd]
   refine W.xt ?_
   with_reducible apply At.next
   apply W.sr
   apply omv; rfl; rfl
   apply omv; rfl; rfl
   apply oop; rfl; apply Pev.slice_lo; rfl; exact yes; rfl; exact yes; rfl; rfl; intro hcond; omega
   (refine OL.clear (b := g) (o := kept.length * 4) rfl rfl rfl CellsL.agg rfl rfl .z (fun hm => ⟨by simp [cutq, show ¬ cap = kept.length by omega, add_mid], by rw [hcl]; omega⟩) (fun c' hc1 hc2 => ?_))
   apply OL.nsr
   apply omv; rfl; rfl
   apply omv; rfl; rfl
   apply oop; rfl; apply Pev.slice_hi; rfl; exact yes; rfl; exact yes; rfl; rfl; intro hcond; omega
   apply oas; rfl; rfl
   apply OL.nx
   apply W.ret
   ((with_reducible apply At.fin1); rfl; rfl; intro w' hw')
   refine ⟨rfl, c'.drop (kept.length * 4), ?_, ?_, by (exact hw'.toKeep (by exact mau) (fun k hk (hO : ¬ k = g) => by exact NotOwned.au))⟩
   ·rw [← hct, ← hc2, List.take_append_drop]
    exact hw'.item (by exact mau)
   ·rw [← hct, ← hc2, List.take_append_drop, hc1]
    exact hcl
abbrev Par := List (Ty × PY) × PY
def slP (r : Par) : Value := .slice r.2.1 r.1.length r.2.2
def parC (r : Par) : List Value := cat tyR.c r.1
def cntR (L : List Par) : Nat := (L.map fun r => r.1.length).sum
theorem cntR_take (L : List Par) (k : Nat) {r : Par} (h : L[k]? = some r) : cntR (L.take (k + 1)) = cntR (L.take k) + r.1.length := by
 unfold cntR
 rw [List.take_add_one, h, Option.toList_some, List.map_append, List.sum_append]
 simp
theorem cntR_le : ∀ (L : List Par) (k : Nat), cntR (L.take k) ≤ cntR L
 | [], k => by simp [cntR]
 | r :: L, 0 => by simp [cntR]
 | r :: L, k + 1 => by
  have := cntR_le L k
  simp only [cntR, List.take_succ_cons, List.map_cons, List.sum_cons] at this ⊢
  omega
theorem madeZ (z : Array Value) (n : Nat) : (Builtin.zeroCells z n).size = n * z.size := by simp [Builtin.zeroCells]
structure GR where
 O : Nat → Prop
 q : Option Addr
 c : Nat
theorem Grow_calls (n : Nat) (w w2 : World) (hw2 : Cls [] [w] w2) (hn : n ≤ 1000000000) :
  Calls Try.prog 77 [.slice none 0 0, .int .i64 (n : Int)].toArray w2 fun e w' => ∃ O q c, e = .returned (.slice q 0 c) ∧ Cls [row w.heap.size O q 0 c 50 4 []] [w] w' := by
 by_cases h0 : n = 0
 ·rw [h0]
  refine (Any8.slices_Grow_room Try.growR none 0 0 0 w2 (by omega) (by omega) (by omega) (by omega)).mono fun e w' ⟨h1, h2⟩ => ⟨fun _ => False, none, 0, h1, ?_⟩
  rw [h2]
  exact hw2.row_nil w.heap.size 50 4
 ·obtain ⟨i0, hi, hz0, hz1, hz2⟩ := info_parts (P := Try.prog) (e := 50) (z := .agg #[.int .i64 0, .string ⟨#[]⟩, .int .i64 0, .slice none 0 0]) (size := 4) (bytes := 56) rfl
  refine (Any8.slices_Grow_grow Try.growR i0 _ hi hz0 (by omega) none 0 0 n [] w2 (by omega) (by omega) (by rw [hz2]; omega) (by omega) (by simp) (fun _ => rfl) (fun a ha => by cases ha)).mono fun e w' ⟨h1, h2⟩ => ?_
  have hG1 := grownCap_ge w2 (0 + n) 0 (Try.growR_ren.t 25)
  have hG2 : grownCap w2 (0 + n) 0 (Try.growR_ren.t 25) ≤ maxLen := grownCap_le_maxLen w2 _ _ _ (by simp only [maxLen]; omega)
  generalize grownCap w2 (0 + n) 0 (Try.growR_ren.t 25) = G at *
  have hcs : (([] : List Value).toArray ++ Builtin.zeroCells (Value.agg #[.int .i64 0, .string ⟨#[]⟩, .int .i64 0, .slice none 0 0]).cells (0 + n - 0) ++ Builtin.zeroCells (Value.agg #[.int .i64 0, .string ⟨#[]⟩, .int .i64 0, .slice none 0 0]).cells (G - (0 + n))).size = G * 4 := by
   have hz4 : (Value.agg #[.int .i64 0, .string ⟨#[]⟩, .int .i64 0, .slice none 0 0]).cells.size = 4 := rfl
   rw [Array.size_append, Array.size_append, madeZ, madeZ, hz4, List.size_toArray, List.length_nil]
   omega
  generalize (([] : List Value).toArray ++ Builtin.zeroCells (Value.agg #[.int .i64 0, .string ⟨#[]⟩, .int .i64 0, .slice none 0 0]).cells (0 + n - 0) ++ Builtin.zeroCells (Value.agg #[.int .i64 0, .string ⟨#[]⟩, .int .i64 0, .slice none 0 0]).cells (G - (0 + n))) = cs at *
  have hh : w'.heap[w2.heap.size]? = some (.cells cs 50 (0, 0)) := by rw [h2]; exact heap_alloc_new w2.drew _
  have hx : Ext w2 w' := by
   rw [h2]
   exact Keep.trans (b := w2.drew) ⟨rfl, rfl, rfl, Nat.le_refl _, fun _ _ _ => rfl⟩ (ext_alloc _ _)
  refine ⟨fun k => k = w2.heap.size, some ⟨w2.heap.size, 0, none⟩, G, h1, ?_⟩
  refine hw2.add hx _ ⟨fun a ha => by cases ha; rfl, by simp, .inr ⟨w2.heap.size, G, cs, rfl, (hw2.kp w (.head _)).size, hh, Nat.zero_le _, hG2, hcs, by simp⟩⟩ (fun k hk => ?_)
  have hk2 : k = w2.heap.size := hk.2
  rw [hk2]
  exact ⟨Nat.le_refl _, (Array.getElem?_eq_some_iff.1 hh).1⟩
theorem Concat_calls (bP : Nat) (L : List Par) (w : World) (hb : (blk bP 25 (L.map slP)).holds w) (hL : ∀ r ∈ L, Arr tyR w (low w) r.1 r.2.1) (hl : L.length ≤ 1000000) (ht : cntR L ≤ 1000000000) :
  Calls Try.prog 43 [.slice (some ⟨bP, 0, none⟩) L.length L.length].toArray w fun e w' => ∃ O q c, e = .returned (.slice q (cntR L) c) ∧ Cls [row w.heap.size O q (cntR L) c 50 4 (L.flatMap parC)] [w] w' := by
 have hbP := blk_lt hb
 refine enter Try.func43 rfl Try.ntmps43 rfl (Cls.start w) ?_
 (simp only [argEnv, Nat.zero_add, Nat.reduceAdd])
 apply W.sr
 apply oas; rfl; rfl
 apply OL.nsr
 apply oas; rfl; rfl
 apply OL.nx
 apply W.seq
 apply W.sr
 apply omv; rfl; rfl
 apply oop; rfl; apply Pev.len_slice; rfl; exact yes; rfl
 apply omv; rfl; rfl
 apply OL.nx
 apply W.block
 refine W.loop (G := Nat) (fun k => k ≤ L.length) (fun k => L.length - k)
  (fun k => [(0, true, .slice (some ⟨bP, 0, none⟩) L.length L.length), (3, true, .int .i64 (cntR (L.take k) : Int)), (9, true, .slice (some ⟨bP, 0, none⟩) L.length L.length), (10, true, .int .i64 (L.length : Int)), (11, true, .int .i64 (k : Int))])
  (fun _ => Cls [] [w]) 0 (by omega) (by exact Sub.au) (fun w' hw' => hw') ?_
 rintro k hk
 apply W.sr
 apply obn; rfl; rfl; rfl; apply Bin.lss
 apply OL.nx
 apply W.seq
 (refine W.cnd (fun hlt => ?_) (fun hlt => ?_)) <;> (try (exfalso; first | omega | exact hlt trivial | contradiction))
 ·have hkl : k < L.length := by omega
  obtain ⟨r, hr⟩ : ∃ r, L[k]? = some r := ⟨_, List.getElem?_eq_getElem hkl⟩
  have hc : w.cell? ⟨bP, 0 + (k : Int).toNat * 1, none⟩ = some (.slice r.2.1 r.1.length r.2.2) := by
   rw [blk_cell hb, show 0 + (k : Int).toNat * 1 = k by omega, List.getElem?_map, hr]; rfl
  have h1 := cntR_take L k hr
  have h2 := cntR_le L (k + 1)
  apply W.sk
  apply W.sb
  apply W.sr
  apply oop; rfl; apply Pev.idxB; rfl; exact yes; rfl; exact yes; rfl; intro hcond; omega; rfl
  apply oop; rfl; apply Pev.load_kept; rfl; exact yes; exact .head _; rfl; intro hcond; assumption; intro hcond; assumption; intro hcond; exact NotOwned.au
  apply oas; rfl; rfl
  apply OL.nsr
  apply omv; rfl; rfl
  apply omv; rfl; rfl
  apply oop; rfl; apply Pev.len_slice; rfl; exact yes; rfl
  apply obn; rfl; rfl; rfl; apply Bin.add_in; omega
  apply oas; rfl; rfl
  apply OL.nsr
  apply omv; rfl; rfl
  apply obn; rfl; rfl; rfl; apply Bin.lss
  apply OL.nx
  refine W.cond rfl (fun h => by simp at h; omega) (fun _ => ?_)
  apply W.skip
  with_reducible apply At.in_normal
  with_reducible apply At.next
  apply W.reg
  apply obn; rfl; rfl; rfl; apply Bin.add_in; omega
  apply omv; rfl; rfl
  apply OL.nil
  exact At.again (k + 1) (by omega) (by omega) (by rw [h1]; exact Sub.au) (fun w' hw' => hw')
 obtain rfl : k = L.length := by omega
 rw [List.take_length]
 have hGrow := fun w2 (hw2 : Cls [] [w] w2) => Grow_calls (cntR L) w w2 hw2 ht
 refine W.xt ?_
 with_reducible apply At.next
 apply W.sr
 apply omv; rfl; rfl
 refine OL.callE (α := GR) (fun z => .slice z.q 0 z.c) (fun _ => True) (fun z => Cls [row w.heap.size z.O z.q 0 z.c 50 4 []] [w]) rfl rfl (by exact Args.au) (fun w2 hw2 => (hGrow w2 hw2).mono fun e w3 ⟨O, q, c, h1, h2⟩ => ⟨⟨O, q, c⟩, h1, trivial, h2⟩) ?_
 rintro ⟨O1, q1, c1⟩ _
 simp only
 apply oas; rfl; rfl
 apply OL.nx
 apply W.seq
 apply W.sr
 apply omv; rfl; rfl
 apply oop; rfl; apply Pev.len_slice; rfl; exact yes; rfl
 apply omv; rfl; rfl
 apply OL.nx
 apply W.block
 refine W.loop (G := Nat × GR) (fun g => g.1 ≤ L.length) (fun g => L.length - g.1)
  (fun g => [(6, true, .slice g.2.q (cntR (L.take g.1)) g.2.c), (25, true, .slice (some ⟨bP, 0, none⟩) L.length L.length), (26, true, .int .i64 (L.length : Int)), (27, true, .int .i64 (g.1 : Int))])
  (fun g => Cls [row w.heap.size g.2.O g.2.q (cntR (L.take g.1)) g.2.c 50 4 ((L.take g.1).flatMap parC)] [w]) (0, ⟨O1, q1, c1⟩) (by simp) (by exact Sub.au) (fun w' hw' => by simpa [cntR] using hw') ?_
 rintro ⟨k, ⟨O2, q2, c2⟩⟩ hk
 simp only at hk ⊢
 apply W.sr
 apply obn; rfl; rfl; rfl; apply Bin.lss
 apply OL.nx
 apply W.seq
 (refine W.cnd (fun hlt2 => ?_) (fun hlt2 => ?_)) <;> (try (exfalso; first | omega | exact hlt2 trivial | contradiction))
 ·have hkl : k < L.length := by omega
  obtain ⟨r, hr⟩ : ∃ r, L[k]? = some r := ⟨_, List.getElem?_eq_getElem hkl⟩
  have hc : w.cell? ⟨bP, 0 + (k : Int).toNat * 1, none⟩ = some (.slice r.2.1 r.1.length r.2.2) := by
   rw [blk_cell hb, show 0 + (k : Int).toNat * 1 = k by omega, List.getElem?_map, hr]; rfl
  have h1 := cntR_take L k hr
  have h2 := cntR_le L (k + 1)
  have h3 : (L.take (k + 1)).flatMap parC = (L.take k).flatMap parC ++ cat tyR.c r.1 := by
   rw [List.take_add_one, hr, Option.toList_some, List.flatMap_append]
   simp [parC]
  have h4 := (hL r (List.mem_of_getElem? hr)).slAt
  apply W.sk
  apply W.sb
  apply W.sr
  apply oop; rfl; apply Pev.idxB; rfl; exact yes; rfl; exact yes; rfl; intro hcond; omega; rfl
  apply oop; rfl; apply Pev.load_kept; rfl; exact yes; exact .head _; rfl; intro hcond; assumption; intro hcond; assumption; intro hcond; exact NotOwned.au
  apply oas; rfl; rfl
  apply OL.nx
  apply W.reg
  apply omv; rfl; rfl
  apply omv; rfl; rfl
  (apply OL.appendK (news := cat tyR.c r.1)); rfl; rfl; rfl; rfl; (exact Hole.au); (exact fun w2 hw2 => h4.keep (hw2.below (s := w) (by exact mau) (Nat.le_refl _) (fun k hk => NotOwned.row (by omega) NotOwned.nil)) (hw2.kp w (by exact mau)).size); (exact cat_length pat_len _); (exact cat_oneL pat_one _); (exact ⟨w, .head _, Nat.le_refl _⟩); (omega); (intro O3 q3 c3)
  apply oas; rfl; rfl
  apply OL.nil
  with_reducible apply At.in_normal
  with_reducible apply At.next
  apply W.reg
  apply obn; rfl; rfl; rfl; apply Bin.add_in; omega
  apply omv; rfl; rfl
  apply OL.nil
  exact At.again (k + 1, ⟨O3, q3, c3⟩) (by simp only; omega) (by simp only; omega) (by simp only [h1]; exact Sub.au) (fun w' hw' => by simp only [h1, h3]; exact hw')
 obtain rfl : k = L.length := by omega
 rw [List.take_length]
 refine W.xt ?_
 with_reducible apply At.next
 apply W.sr
 apply omv; rfl; rfl
 apply oas; rfl; rfl
 apply OL.nx
 apply W.ret
 ((with_reducible apply At.fin1); rfl; rfl; intro w' hw')
 exact ⟨O2, q2, c2, rfl, hw'⟩
theorem flat_cat (L : List Par) : L.flatMap parC = cat tyR.c (L.flatMap fun r => r.1) := by
 induction L with
 | nil => rfl
 | cons r L ih => rw [List.flatMap_cons, List.flatMap_cons, cat_append, ih]; rfl
theorem Concat2_calls (bP na nb : Nat) (a b : List (Ty × PY)) (qa qb : Option Addr) (ca cb : Nat) (w : World) (hb : (blk bP 25 [.slice qa na ca, .slice qb nb cb]).holds w) (hna : a.length = na) (hnb : b.length = nb) (h1 : Arr tyR w (low w) a qa) (h2 : Arr tyR w (low w) b qb) (hl : na + nb ≤ 1000000000) :
  Calls Try.prog 43 [.slice (some ⟨bP, 0, none⟩) 2 2].toArray w fun e w' => ∃ q c, e = .returned (.slice q (na + nb) c) ∧ na + nb ≤ c ∧ FrA w w' (a ++ b) q ∧ Ext w w' := by
 subst hna
 subst hnb
 have hc : cntR [(a, (qa, ca)), (b, (qb, cb))] = a.length + b.length := by simp [cntR]
 refine (Concat_calls bP [(a, (qa, ca)), (b, (qb, cb))] w hb (fun r hr => ?_) (by simp) (by rw [hc]; exact hl)).mono ?_
 ·rcases List.mem_cons.1 hr with rfl | hr
  ·exact h1
  ·rw [List.mem_singleton] at hr
   subst hr
   exact h2
 ·rintro e w' ⟨O, q, c, h3, h4⟩
  rw [hc] at h3 h4
  rw [flat_cat, show ([(a, (qa, ca)), (b, (qb, cb))].flatMap fun r : Par => r.1) = a ++ b by simp] at h4
  have hx : Ext w w' := h4.toExt (.head _) (fun k hk => NotOwned.row hk .nil)
  exact ⟨q, c, h3, row_cap (h4.item (.head _)), FrA.of_row h4 (.head _), hx⟩
end Go.Proofs.Ytleggdmhihcafaa.pt

/- The walk of patterns.narrow. Conditions: none. -/
namespace Go.Pt
open Go.Eng Go.RowKit
theorem pat_kids {w : World} {O : Nat → Prop} : ∀ {p : Ty} {y : PY}, TyO w O p y → ∃ pz : List (Ty × PY), pz.map Prod.fst = p.args ∧ Arr tyR w O pz y.1 ∧ p.args.length ≤ 9223372036854775807 ∧ I64 p.kind ∧ I64 p.var
 | .mk k nm n l, y, h => by
  obtain ⟨h1, h2, h3, pz, h4, h5⟩ := h.parts
  exact ⟨pz, h4, h5, h3, h1, h2⟩
theorem Cls.fra {H : List Eng.Item} {S : List World} {w w' : World} {q : Option Addr} {c : Nat} {ps : List (Ty × PY)} (h : Cls H S w) (he : Ext w w') (hF : FrA w w' ps q) : Cls (pile w.heap.size (fun k => k < w'.heap.size) [⟨q, c, cat tyR.c ps⟩] :: H) S w' :=
 h.add he _ (fun s hs hl => by
  obtain rfl := List.mem_singleton.1 hs
  have hp : 0 < ps.length := by
   have hl : 0 < (cat tyR.c ps).length := hl
   rw [cat_length (f := tyR.c) tyR.clen] at hl
   exact Nat.pos_of_mul_pos_right hl
  obtain ⟨a, h1, h2, h3⟩ := hF hp
  exact ⟨a, h1, h2, h3⟩) (fun k hk => hk)
theorem pile_arr {w : World} {B : Nat} {O : Nat → Prop} {q : Option Addr} {c : Nat} {ps : List (Ty × PY)} (h : (pile B O [⟨q, c, cat tyR.c ps⟩]).holds w) (hel : ∀ p ∈ ps, TyO w (low w) p.1 p.2) : Arr tyR w (low w) ps q := Arr.of_sl (pile_at h (.head _)) hel
theorem pool_arr {H : List Eng.Item} {S : List World} {w0 w : World} {B m cap : Nat} {O O2 : Nat → Prop} {q : Option Addr} {e : TypeId} {l : List (List (Ty × PY) × PY)} (hc : Cls H S w) (h1 : row B O q m cap e 1 (cat (patsE (fun p => TyO w0 (low w0) p.1 p.2)).c l) ∈ H) (h2 : pool (patsE (fun p => TyO w0 (low w0) p.1 p.2)) B O2 l ∈ H) (hx : Ext w0 w) : Arr patsR w (low w) (l.map fun r => (r.1.map Prod.fst, r.2)) q := by
 have hcat : ∀ l : List (List (Ty × PY) × PY), cat patsR.c (l.map fun r => (r.1.map Prod.fst, r.2)) = cat (patsE (fun p => TyO w0 (low w0) p.1 p.2)).c l := fun l => by
  induction l with
  | nil => rfl
  | cons r l ih =>
   simp only [List.map_cons, cat]
   rw [ih]
   show [Value.slice r.2.1 (r.1.map Prod.fst).length r.2.2] ++ _ = [Value.slice r.2.1 r.1.length r.2.2] ++ _
   rw [List.length_map]
 refine Arr.of_sl (by rw [hcat]; exact SlAt.of_row (hc.item h1)) (fun p hp => ?_)
 obtain ⟨r, hr, rfl⟩ := List.mem_map.1 hp
 have hpool := hc.item h2 r hr
 obtain ⟨g1, g2, g3, g4⟩ := hpool
 refine ⟨⟨r.1, rfl, Arr.of_sl (fun hl => ?_) (fun p hp => Rel.ext (R := tyR) (g4 p hp) hx)⟩, by rw [List.length_map]; exact g2, by rw [List.length_map]; exact g3⟩
 obtain ⟨a, k1, k2, k3⟩ := g1 (by
  rw [cat_length (f := tyR.c) tyR.clen] at hl
  exact Nat.pos_of_mul_pos_right hl)
 exact ⟨a, k1, hc.lt _ h2 _ k2, k3⟩
end Go.Pt
namespace Go.Proofs.Ytleggdmhihcafaa.pt
open Go.RowKit Go.Eng Go.Pt
set_option maxRecDepth 100000
theorem narrow_step {rs : List (List Ty × PY)} {i : Nat} {p : Ty} {t : List Ty} {y : PY} (nm : ByteArray) (many : Nat) (h : rs[i]? = some (p :: t, y)) : narrow ((rs.take (i + 1)).map Prod.fst) nm many = narrow ((rs.take i).map Prod.fst) nm many ++ if free p then [anys many ++ t] else if p.name = nm then [p.args ++ t] else [] := by
 rw [List.take_add_one, h]
 unfold narrow
 simp only [Option.toList_some, List.map_append, List.filterMap_append, List.map_cons, List.map_nil]
 cases hf : free p
 ·by_cases hn : p.name = nm <;> simp [hf, hn]
 ·simp [hf]
structure GE where
 O : Nat → Prop
 q : Option Addr
 c : Nat
 ps : List (List (Ty × PY) × PY)
theorem narrow_calls (q : Option Addr) (cap : Nat) (rs : List (List Ty × PY)) (nm : ByteArray) (many : Nat) (w0 w : World) (hx : Ext w0 w) (hlen : rs.length ≤ 1000000) (h : Arr patsR w0 (low w0) rs q) (hne : ∀ r ∈ rs, r.1 ≠ []) (hmany : many ≤ 10000000)
  (hsz : ∀ r ∈ rs, ∀ p t, r.1 = p :: t → t.length ≤ 10000000 ∧ (free p = false → p.name = nm → p.args.length ≤ 10000000)) :
  Calls Try.prog 40 [.slice q rs.length cap, .string nm, .int .i64 (many : Int)].toArray w fun e w' => ∃ (g : GE) (O2 : Nat → Prop), e = .returned (.slice g.q g.ps.length g.c) ∧ g.ps.map (fun r => r.1.map Prod.fst) = narrow (rs.map Prod.fst) nm many ∧ g.ps.length ≤ rs.length ∧ Cls [row w.heap.size g.O g.q g.ps.length g.c 25 1 (cat (patsE (fun p => TyO w0 (low w0) p.1 p.2)).c g.ps), pool (patsE (fun p => TyO w0 (low w0) p.1 p.2)) w.heap.size O2 g.ps] [w, w0] w' := by
 refine enter Try.func40 rfl Try.ntmps40 rfl (Cls.start2 hx) ?_
 have hxs := hx.size
 (simp only [argEnv, Nat.zero_add, Nat.reduceAdd])
 apply W.sr
 apply oas; rfl; rfl
 apply OL.nsr
 apply oas; rfl; rfl
 apply OL.nx
 apply W.seq
 apply W.sr
 apply omv; rfl; rfl
 apply oop; rfl; apply Pev.len_slice; rfl; exact yes; rfl
 apply omv; rfl; rfl
 apply OL.nx
 apply W.block
 refine W.loop (G := Nat × GE × (Nat → Prop)) (fun g => g.1 ≤ rs.length ∧ g.2.1.ps.map (fun r => r.1.map Prod.fst) = narrow ((rs.take g.1).map Prod.fst) nm many ∧ g.2.1.ps.length ≤ g.1) (fun g => rs.length - g.1)
  (fun g => [(1, true, .string nm), (2, true, .int .i64 (many : Int)), (7, true, .slice g.2.1.q g.2.1.ps.length g.2.1.c), (10, true, .slice q rs.length cap), (11, true, .int .i64 (rs.length : Int)), (12, true, .int .i64 (g.1 : Int))])
  (fun g => Cls [row w.heap.size g.2.1.O g.2.1.q g.2.1.ps.length g.2.1.c 25 1 (cat (patsE (fun p => TyO w0 (low w0) p.1 p.2)).c g.2.1.ps), pool (patsE (fun p => TyO w0 (low w0) p.1 p.2)) w.heap.size g.2.2 g.2.1.ps] [w, w0]) (0, ⟨fun _ => False, none, 0, []⟩, fun _ => False) ⟨Nat.zero_le _, rfl, Nat.le_refl _⟩ (by exact Sub.au) (fun w' hw' => (hw'.pool_nil _ w.heap.size).row_nil w.heap.size 25 1) ?_
 rintro ⟨i, ⟨O, q1, c1, ps⟩, O2⟩ ⟨hi, hps, hpl⟩
 simp only at hi hps hpl ⊢
 apply W.sr
 apply obn; rfl; rfl; rfl; apply Bin.lss
 apply OL.nx
 apply W.seq
 (refine W.cnd (fun hlt => ?_) (fun hlt => ?_)) <;> (try (exfalso; first | omega | exact hlt trivial | contradiction))
 ·obtain ⟨a, a2, z, pt, y, rfl, hab, hu, hcell, hab2, hcell2, harr, hyc, hyl⟩ := row_head h (show i < rs.length by omega) hne
  have hstep := narrow_step nm many hu
  rw [← hps] at hstep
  obtain ⟨hs1, hs2⟩ := hsz _ (List.mem_of_getElem? hu) z.1 _ rfl
  rw [List.length_map] at hs1
  have hdrop := Arr.drop harr (cap := y.2) (by simpa using hyc) 1
  apply W.sk
  apply W.sb
  apply W.sr
  apply oop; rfl; apply Pev.idx; rfl; exact yes; rfl; exact yes; rfl; rfl; intro hcond; omega
  apply oop; rfl; apply Pev.load_kept; rfl; exact yes; exact .tail _ (.head _); rfl; intro hcond; assumption; intro hcond; (rw [add_block]; assumption); intro hcond; exact NotOwned.au
  apply oas; rfl; rfl
  apply OL.nx
  apply W.block
  apply W.sr
  apply omv; rfl; rfl
  apply oop; rfl; apply Pev.idx; rfl; exact yes; rfl; exact yes; rfl; rfl; intro hcond; (simp only [Bool.and_eq_true, Bool.or_eq_true, Bool.not_eq_true', decide_eq_true_eq, decide_eq_false_iff_not] at *; omega)
  apply oop; rfl; apply Pev.load_keptA; rfl; exact yes; exact .tail _ (.head _); rfl; intro hcond; assumption; rfl; intro hcond; assumption; intro hcond; exact NotOwned.au
  (((first | (with_reducible apply OL.op) | (with_reducible apply QL.op)); (exact Guard.au); rfl; rfl); (exact Pev.call (v := .bool (free z.1)) rfl (by exact Args.au) (fun _ w2 hw2 => (free_calls z.1 z.2 w2).mono (fun e w3 h => ⟨h.1, hw2.ext h.2⟩))))
  apply oas; rfl; rfl
  apply OL.nx
  refine W.cond rfl (fun hf => ?_) (fun hf => ?_)
  ·apply W.regz; apply ZSplit.pure rfl; apply ZSplit.pure rfl; apply ZSplit.tail; apply ZSplit.pure rfl; apply ZSplit.pure rfl; apply ZSplit.tail; apply ZSplit.tail; apply ZSplit.tail; apply ZSplit.tail; apply ZSplit.tail; exact ZSplit.nil; kernel_rfl; decide +kernel; exact fun w hw => hw.drew
   apply ZL.op rfl; exact Guard.none; rfl; rfl; apply Pev.move; rfl; exact yes
   apply ZL.op rfl; exact Guard.none; rfl; rfl; apply Pev.move; rfl; exact yes
   apply ZL.op rfl; exact Guard.none; rfl; rfl; apply Pev.move; rfl; exact yes
   apply ZL.op rfl; exact Guard.none; rfl; rfl; apply Pev.slice_lo; rfl; exact yes; rfl; exact yes; rfl; rfl; intro hcond; (simp only [Bool.and_eq_true, Bool.or_eq_true, Bool.not_eq_true', decide_eq_true_eq, decide_eq_false_iff_not] at *; omega)
   apply ZL.nil
   apply TL.one rfl
   refine OL.callE (α := Option Addr × Nat × Nat) (fun z => .slice z.1 many many) (fun z => w.heap.size ≤ z.2.1) (fun z => Cls (pile z.2.1 (fun k => k < z.2.2) [⟨z.1, many, cat tyR.c (List.replicate many (anyT, ((none, 0) : PY)))⟩] :: [row w.heap.size O q1 ps.length c1 25 1 (cat (patsE (fun p => TyO w0 (low w0) p.1 p.2)).c ps), pool (patsE (fun p => TyO w0 (low w0) p.1 p.2)) w.heap.size O2 ps]) [w, w0]) rfl rfl (by exact Args.au) (fun w2 hw2 => (anys_calls many w2 (by omega)).mono fun e w3 ⟨q, h1, h2, h3⟩ => ⟨(q, w2.heap.size, w3.heap.size), h1, (hw2.kp w (.head _)).size, Cls.fra hw2 h3 h2⟩) ?_
   rintro ⟨qa, Ba, ha⟩ hBa
   simp only at hBa ⊢
   apply OL.nil
   with_reducible apply At.tn; decide +kernel
   apply TL.one rfl
   apply OL.buildSlice; rfl; rfl; rfl; exact Elems.au; rfl; rfl; (intro bk hbk; simp only [AllLe, and_true] at hbk)
   apply OL.nil
   with_reducible apply At.tn; decide +kernel
   apply TL.one rfl
   refine OL.callE (α := PY × (Nat → Prop)) (fun z => .slice z.1.1 (many + (pt.length + 1 - 1)) z.1.2) (fun _ => True) (fun z => Cls ([blk bk 25 [.slice qa many many, .slice (cutq (some a2) y.2 1 4) (pt.length + 1 - 1) (y.2 - 1)], pile Ba (fun k => k < ha) [⟨qa, many, cat tyR.c (List.replicate many (anyT, ((none, 0) : PY)))⟩], row w.heap.size O q1 ps.length c1 25 1 (cat (patsE (fun p => TyO w0 (low w0) p.1 p.2)).c ps), pool (patsE (fun p => TyO w0 (low w0) p.1 p.2)) w.heap.size z.2 (ps ++ [(List.replicate many (anyT, ((none, 0) : PY)) ++ pt, z.1)])]) [w, w0]) rfl rfl (by exact Args.au) (fun w2 hw2 => ?_) ?_
   ·refine (Concat2_calls bk (many) (pt.length + 1 - 1) (List.replicate many (anyT, ((none, 0) : PY))) pt qa (cutq (some a2) y.2 1 4) many (y.2 - 1) w2 (hw2.item (.head _)) (by simp) (by omega) (pile_arr (hw2.item (.tail _ (.head _))) (anyl_ok w2 _ many)) (hdrop.at hw2 (by exact mau) (fun k hk => by exact NotOwned.au)) (by omega)).mono ?_
    rintro e w3 ⟨q5, c5, h1, h2, h3, h4⟩
    refine ⟨((q5, c5), fun k => O2 k ∨ fresh w2 w3 k), h1, trivial, Cls.pool_push (R := patsE (fun p => TyO w0 (low w0) p.1 p.2)) (x := List.replicate many (anyT, ((none, 0) : PY)) ++ pt) (y := (q5, c5)) (by exact Hole.au) hw2 (hw2.kp w (.head _)).size h4 ⟨h3, by rw [List.length_append]; simp only [List.length_replicate]; omega, by rw [List.length_append]; simp only [List.length_replicate]; omega, fun p hp => ?_⟩⟩
    rcases List.mem_append.1 hp with hp | hp
    ·exact anyl_ok w0 _ many p hp
    ·exact harr.el p (.tail _ hp)
   rintro ⟨y5, O5⟩ _
   simp only
   have e1 : ps.length + 1 = (ps ++ [(List.replicate many (anyT, ((none, 0) : PY)) ++ pt, y5)]).length := by simp
   have e2 : cat (patsE (fun p => TyO w0 (low w0) p.1 p.2)).c ps ++ [Value.slice y5.1 (many + (pt.length + 1 - 1)) y5.2] = cat (patsE (fun p => TyO w0 (low w0) p.1 p.2)).c (ps ++ [(List.replicate many (anyT, ((none, 0) : PY)) ++ pt, y5)]) := by
    rw [cat_append]
    congr 1
    show _ = [Value.slice y5.1 (List.replicate many (anyT, ((none, 0) : PY)) ++ pt).length y5.2]
    rw [List.length_append, Nat.add_sub_cancel, List.length_replicate]
   apply OL.nil
   with_reducible apply At.tn; decide +kernel
   apply TL.one rfl
   apply OL.buildSlice; rfl; rfl; rfl; exact Elems.au; rfl; rfl; (intro bk hbk; simp only [AllLe, and_true] at hbk)
   apply OL.nil
   with_reducible apply At.tn; decide +kernel
   apply TL.one rfl
   apply OL.append; rfl; rfl; rfl; rfl; exact Hole.au; exact .head _; exact Take.au; rfl; rfl; exact ⟨_, .head _, Nat.le_refl _⟩; omega; intro O1 g1 cap1
   apply OL.nil
   with_reducible apply At.tn; decide +kernel
   apply TL.one rfl
   apply oas; rfl; rfl
   apply OL.nil
   with_reducible apply At.tn; decide +kernel
   apply TL.nil
   with_reducible apply At.np
   with_reducible apply At.in_normal
   with_reducible apply At.in_normal
   with_reducible apply At.next
   apply W.reg
   apply obn; rfl; rfl; rfl; apply Bin.add_in; omega
   apply omv; rfl; rfl
   apply OL.nil
   rw [e1, e2]
   refine At.again (i + 1, ⟨O1, some ⟨g1, 0, none⟩, cap1, ps ++ [(List.replicate many (anyT, ((none, 0) : PY)) ++ pt, y5)]⟩, O5) ⟨by simp only; omega, ?_, by simp only [← e1]; omega⟩ (by simp only; omega) (by exact Sub.au) (fun w' hw' => hw'.thin (Thin.blk (by simp only [AllLe, and_true]; omega) (Thin.blk (by simp only [AllLe, and_true]; omega) (.any (fun k hk => ⟨Nat.le_trans hBa hk.1, Nat.le_trans hxs (Nat.le_trans hBa hk.1), trivial⟩) Thin.same))))
   simp only [hstep, hf, List.map_append, List.map_cons, List.map_nil]
   rw [anyl_map]; rfl
  ·have hf : free z.1 = false := by simpa using hf
   apply W.sr
   apply omv; rfl; rfl
   apply oop; rfl; apply Pev.idx; rfl; exact yes; rfl; exact yes; rfl; rfl; intro hcond; (simp only [Bool.and_eq_true, Bool.or_eq_true, Bool.not_eq_true', decide_eq_true_eq, decide_eq_false_iff_not] at *; omega)
   apply oop; rfl; apply Pev.fldA; rfl; exact yes; rfl
   apply oop; rfl; apply Pev.load_kept; rfl; exact yes; exact .tail _ (.head _); rfl; intro hcond; apply CellsAt.at_ (by assumption) rfl; intro hcond; assumption; intro hcond; exact NotOwned.au
   apply omv; rfl; rfl
   apply obn; rfl; rfl; rfl; apply Bin.str_eql
   apply oas; rfl; rfl
   apply OL.nx
   refine W.cond rfl (fun hb => ?_) (fun hb => ?_)
   ·have hnm : z.1.name = nm := of_decide_eq_true hb
    obtain ⟨pz, hpzm, hpza⟩ : ∃ pz : List (Ty × PY), pz.map Prod.fst = z.1.args ∧ Arr tyR w0 (low w0) pz z.2.1 := by
     obtain ⟨pz, g1, g2, _⟩ := pat_kids (harr.el z (.head _))
     exact ⟨pz, g1, g2⟩
    have hpzl : pz.length = z.1.args.length := by rw [← hpzm, List.length_map]
    have hzl := hs2 hf hnm
    apply W.regz; apply ZSplit.pure rfl; apply ZSplit.pure rfl; apply ZSplit.pure rfl; apply ZSplit.pure rfl; apply ZSplit.pure rfl; apply ZSplit.pure rfl; apply ZSplit.pure rfl; apply ZSplit.tail; apply ZSplit.tail; apply ZSplit.tail; apply ZSplit.tail; apply ZSplit.tail; exact ZSplit.nil; kernel_rfl; decide +kernel; exact fun w hw => hw.drew
    apply ZL.op rfl; exact Guard.none; rfl; rfl; apply Pev.move; rfl; exact yes
    apply ZL.op rfl; exact Guard.none; rfl; rfl; apply Pev.move; rfl; exact yes
    apply ZL.op rfl; exact Guard.none; rfl; rfl; apply Pev.idx; rfl; exact yes; rfl; exact yes; rfl; rfl; intro hcond; (simp only [Bool.and_eq_true, Bool.or_eq_true, Bool.not_eq_true', decide_eq_true_eq, decide_eq_false_iff_not] at *; omega)
    apply ZL.op rfl; exact Guard.none; rfl; rfl; apply Pev.fldA; rfl; exact yes; rfl
    apply ZL.ld rfl; exact Guard.none; rfl; rfl; apply Pev.load_kept; rfl; exact yes; exact .tail _ (.head _); rfl; intro hcond; apply CellsAt.at_ (by assumption) rfl; intro hcond; assumption; intro hcond; exact NotOwned.au
    apply ZL.op rfl; exact Guard.none; rfl; rfl; apply Pev.move; rfl; exact yes
    apply ZL.op rfl; exact Guard.none; rfl; rfl; apply Pev.slice_lo; rfl; exact yes; rfl; exact yes; rfl; rfl; intro hcond; (simp only [Bool.and_eq_true, Bool.or_eq_true, Bool.not_eq_true', decide_eq_true_eq, decide_eq_false_iff_not] at *; omega)
    apply ZL.nil
    apply TL.one rfl
    apply OL.buildSlice; rfl; rfl; rfl; exact Elems.au; rfl; rfl; (intro bk hbk; simp only [AllLe, and_true] at hbk)
    apply OL.nil
    with_reducible apply At.tn; decide +kernel
    apply TL.one rfl
    refine OL.callE (α := PY × (Nat → Prop)) (fun g => .slice g.1.1 (z.1.args.length + (pt.length + 1 - 1)) g.1.2) (fun _ => True) (fun g => Cls ([blk bk 25 [.slice z.2.1 z.1.args.length z.2.2, .slice (cutq (some a2) y.2 1 4) (pt.length + 1 - 1) (y.2 - 1)], row w.heap.size O q1 ps.length c1 25 1 (cat (patsE (fun p => TyO w0 (low w0) p.1 p.2)).c ps), pool (patsE (fun p => TyO w0 (low w0) p.1 p.2)) w.heap.size g.2 (ps ++ [(pz ++ pt, g.1)])]) [w, w0]) rfl rfl (by exact Args.au) (fun w2 hw2 => ?_) ?_
    ·refine (Concat2_calls bk (z.1.args.length) (pt.length + 1 - 1) (pz) pt z.2.1 (cutq (some a2) y.2 1 4) z.2.2 (y.2 - 1) w2 (hw2.item (.head _)) hpzl (by omega) (hpza.at hw2 (by exact mau) (fun k hk => by exact NotOwned.au)) (hdrop.at hw2 (by exact mau) (fun k hk => by exact NotOwned.au)) (by omega)).mono ?_
     rintro e w3 ⟨q5, c5, h1, h2, h3, h4⟩
     refine ⟨((q5, c5), fun k => O2 k ∨ fresh w2 w3 k), h1, trivial, Cls.pool_push (R := patsE (fun p => TyO w0 (low w0) p.1 p.2)) (x := pz ++ pt) (y := (q5, c5)) (by exact Hole.au) hw2 (hw2.kp w (.head _)).size h4 ⟨h3, by rw [List.length_append]; simp only [hpzl]; omega, by rw [List.length_append]; simp only [hpzl]; omega, fun p hp => ?_⟩⟩
     rcases List.mem_append.1 hp with hp | hp
     ·exact hpza.el p hp
     ·exact harr.el p (.tail _ hp)
    rintro ⟨y5, O5⟩ _
    simp only
    have e1 : ps.length + 1 = (ps ++ [(pz ++ pt, y5)]).length := by simp
    have e2 : cat (patsE (fun p => TyO w0 (low w0) p.1 p.2)).c ps ++ [Value.slice y5.1 (z.1.args.length + (pt.length + 1 - 1)) y5.2] = cat (patsE (fun p => TyO w0 (low w0) p.1 p.2)).c (ps ++ [(pz ++ pt, y5)]) := by
     rw [cat_append]
     congr 1
     show _ = [Value.slice y5.1 (pz ++ pt).length y5.2]
     rw [List.length_append, Nat.add_sub_cancel, hpzl]
    apply OL.nil
    with_reducible apply At.tn; decide +kernel
    apply TL.one rfl
    apply OL.buildSlice; rfl; rfl; rfl; exact Elems.au; rfl; rfl; (intro bk hbk; simp only [AllLe, and_true] at hbk)
    apply OL.nil
    with_reducible apply At.tn; decide +kernel
    apply TL.one rfl
    apply OL.append; rfl; rfl; rfl; rfl; exact Hole.au; exact .head _; exact Take.au; rfl; rfl; exact ⟨_, .head _, Nat.le_refl _⟩; omega; intro O1 g1 cap1
    apply OL.nil
    with_reducible apply At.tn; decide +kernel
    apply TL.one rfl
    apply oas; rfl; rfl
    apply OL.nil
    with_reducible apply At.tn; decide +kernel
    apply TL.nil
    with_reducible apply At.np
    with_reducible apply At.in_normal
    with_reducible apply At.in_normal
    with_reducible apply At.next
    apply W.reg
    apply obn; rfl; rfl; rfl; apply Bin.add_in; omega
    apply omv; rfl; rfl
    apply OL.nil
    rw [e1, e2]
    refine At.again (i + 1, ⟨O1, some ⟨g1, 0, none⟩, cap1, ps ++ [(pz ++ pt, y5)]⟩, O5) ⟨by simp only; omega, ?_, by simp only [← e1]; omega⟩ (by simp only; omega) (by exact Sub.au) (fun w' hw' => hw'.thin (Thin.blk (by simp only [AllLe, and_true]; omega) (Thin.blk (by simp only [AllLe, and_true]; omega) Thin.same)))
    simp only [hstep, hf, List.map_append, List.map_cons, List.map_nil]
    rw [if_neg (by decide), if_pos hnm, hpzm]
   ·have hnm : ¬ z.1.name = nm := of_decide_eq_false hb
    apply W.skip
    with_reducible apply At.in_normal
    with_reducible apply At.in_normal
    with_reducible apply At.next
    apply W.reg
    apply obn; rfl; rfl; rfl; apply Bin.add_in; omega
    apply omv; rfl; rfl
    apply OL.nil
    refine At.again (i + 1, ⟨O, q1, c1, ps⟩, O2) ⟨by simp only; omega, ?_, by simp only; omega⟩ (by simp only; omega) (by exact Sub.au) (fun w' hw' => hw'.thin (by exact Thin.au))
    simp only [hstep, hf, hnm]
    simp
 ·obtain rfl : i = rs.length := by omega
  rw [List.take_length] at hps
  refine W.xt ?_
  with_reducible apply At.next
  apply W.sr
  apply omv; rfl; rfl
  apply oas; rfl; rfl
  apply OL.nx
  apply W.ret
  ((with_reducible apply At.fin1); rfl; rfl; intro w' hw')
  exact ⟨⟨O, q1, c1, ps⟩, O2, rfl, hps, hpl, hw'⟩
end Go.Proofs.Ytleggdmhihcafaa.pt

/- Plain: patterns of one type at a place; values of that type; Missing and Redundant are right. No program in sight. No condition. -/
namespace Go.Pt
open Go.Eng
def under (l : List Ty) (nm : ByteArray) (n : Nat) : List Ty := l.filterMap fun q => if free q = false ∧ q.name = nm then q.args[n]? else none
def col (rows : List (List Ty)) (k : Nat) : List Ty := rows.filterMap fun r => r[k]?
def sub (l l' : List Ty) : Prop := ∀ p ∈ l, free p = false → p ∈ l'
theorem under_mem {l : List Ty} {nm : ByteArray} {n : Nat} {x : Ty} : x ∈ under l nm n ↔ ∃ q ∈ l, free q = false ∧ q.name = nm ∧ q.args[n]? = some x := by
 unfold under
 rw [List.mem_filterMap]
 constructor
 ·rintro ⟨q, hq, h⟩
  by_cases hc : free q = false ∧ q.name = nm
  ·rw [if_pos hc] at h
   exact ⟨q, hq, hc.1, hc.2, h⟩
  ·rw [if_neg hc] at h; cases h
 ·rintro ⟨q, h1, h2, h3, h4⟩
  exact ⟨q, h1, by rw [if_pos ⟨h2, h3⟩]; exact h4⟩
theorem col_mem {rows : List (List Ty)} {k : Nat} {x : Ty} : x ∈ col rows k ↔ ∃ r ∈ rows, r[k]? = some x := by
 unfold col
 rw [List.mem_filterMap]
theorem sub.under {l l' : List Ty} (h : sub l l') (nm : ByteArray) (n : Nat) : sub (under l nm n) (under l' nm n) := fun x hx _ => by
 obtain ⟨q, h1, h2, h3, h4⟩ := under_mem.1 hx
 exact under_mem.2 ⟨q, h q h1 h2, h2, h3, h4⟩
theorem sub.of {l l' : List Ty} (h : ∀ p ∈ l, p ∈ l') : sub l l' := fun p hp _ => h p hp
def dOf (D : List Da) (nm : ByteArray) : Option Nat := (conAt D nm).map (·.1)
theorem dOf_of {D : List Da} {nm : ByteArray} {d : Nat} {c : Co} (h : conAt D nm = some (d, c)) : dOf D nm = some d := by
 unfold dOf
 rw [h]
 rfl
inductive Agr (D : List Da) : List Ty → Prop
 | mk {l : List Ty} (hk : ∀ p ∈ l, ∀ q ∈ l, free p = false → free q = false → p.kind = q.kind ∧ (p.kind = 3 → dOf D p.name = dOf D q.name)) (hs : ∀ p ∈ l, free p = false → p.kind = 3 → ∀ n, n < p.args.length → Agr D (under l p.name n)) : Agr D l
inductive Wit (D : List Da) : List Ty → Ty → Prop
 | fr {l : List Ty} {v : Ty} (h : free v = true) : Wit D l v
 | int {l : List Ty} {v p : Ty} (h : v.kind = 2) (hp : p ∈ l) (hf : free p = false) (hk : p.kind = 2) : Wit D l v
 | con {l : List Ty} {v p : Ty} {d : Nat} {c : Co} (h : v.kind = 3) (hc : conAt D v.name = some (d, c)) (hl : v.args.length = c.many) (hp : p ∈ l) (hf : free p = false) (hk : p.kind = 3) (hd : dOf D p.name = some d) (ha : ∀ (n : Nat) (a : Ty), v.args[n]? = some a → Wit D (under l v.name n) a) : Wit D l v
inductive Okv (D : List Da) : List Ty → Ty → Prop
 | fr {l : List Ty} {v : Ty} (h : free v = true) : Okv D l v
 | int {l : List Ty} {v : Ty} (h : v.kind = 2) (hp : ∀ p ∈ l, free p = false → p.kind = 2) : Okv D l v
 | con {l : List Ty} {v : Ty} {d : Nat} {c : Co} (h : v.kind = 3) (hc : conAt D v.name = some (d, c)) (hl : v.args.length = c.many) (hp : ∀ p ∈ l, free p = false → p.kind = 3 ∧ dOf D p.name = some d) (ha : ∀ (n : Nat) (a : Ty), v.args[n]? = some a → Okv D (under l v.name n) a) : Okv D l v
variable {D : List Da}
theorem Agr.mono {l' : List Ty} (h : Agr D l') : ∀ {l : List Ty}, sub l l' → Agr D l := by
 induction h with
 | mk hk hs ih =>
  intro l hl
  exact .mk (fun p hp q hq h1 h2 => hk p (hl p hp h1) q (hl q hq h2) h1 h2) (fun p hp h1 h2 n hn => ih p (hl p hp h1) h1 h2 n hn (hl.under _ _))
theorem Agr.nil : Agr D [] := .mk (fun p hp => by cases hp) (fun p hp => by cases hp)
theorem Agr.under {l : List Ty} (h : Agr D l) (hk : ∀ p ∈ l, free p = false → p.kind = 3) (nm : ByteArray) (n : Nat) : Agr D (under l nm n) := by
 cases hb : Pt.under l nm n with
 | nil => exact .nil
 | cons x r =>
  obtain ⟨q, h1, h2, h3, h4⟩ := under_mem.1 (show x ∈ Pt.under l nm n by rw [hb]; exact .head _)
  rw [← hb, ← h3]
  cases h with
  | mk _ hs => exact hs q h1 h2 (hk q h1 h2) n (List.getElem?_eq_some_iff.1 h4).1
theorem Wit.mono {l : List Ty} {v : Ty} (h : Wit D l v) : ∀ {l' : List Ty}, sub l l' → Wit D l' v := by
 induction h with
 | fr h => exact fun _ => .fr h
 | int h hp hf hk => exact fun hl => .int h (hl _ hp hf) hf hk
 | con h hc hn hp hf hk hd _ ih => exact fun hl => .con h hc hn (hl _ hp hf) hf hk hd (fun n a ha => ih n a ha (hl.under _ _))
theorem Okv.mono {l' : List Ty} {v : Ty} (h : Okv D l' v) : ∀ {l : List Ty}, sub l l' → Okv D l v := by
 induction h with
 | fr h => exact fun _ => .fr h
 | int h hp => exact fun hl => .int h (fun p hpl hf => hp p (hl p hpl hf) hf)
 | con h hc hn hp _ ih => exact fun hl => .con h hc hn (fun p hpl hf => hp p (hl p hpl hf) hf) (fun n a ha => ih n a ha (hl.under _ _))
theorem Wit.ok {l : List Ty} {v : Ty} (h : Wit D l v) : Agr D l → Okv D l v := by
 induction h with
 | fr h => exact fun _ => .fr h
 | int h hp hf hk =>
  intro hA
  cases hA with
  | mk hk2 _ => exact .int h (fun q hq hqf => by rw [(hk2 q hq _ hp hqf hf).1, hk])
 | con h hc hn hp hf hk hd _ ih =>
  intro hA
  have h3 : ∀ q ∈ _, free q = false → q.kind = 3 ∧ dOf D q.name = some _ := fun q hq hqf => by
   cases hA with
   | mk hk2 _ =>
    have e := hk2 q hq _ hp hqf hf
    have e1 : q.kind = 3 := by rw [e.1, hk]
    exact ⟨e1, by rw [e.2 e1, hd]⟩
  exact .con h hc hn h3 (fun n a ha => ih n a ha (hA.under (fun q hq hqf => (h3 q hq hqf).1) _ _))
/-! matrices of patterns -/
structure Mat (D : List Da) (rows : List (List Ty)) (cols : Nat) : Prop where
 len : ∀ r ∈ rows, r.length = cols
 wf : ∀ r ∈ rows, ∀ p ∈ r, Wf D p
 agr : ∀ k, Agr D (col rows k)
variable {rows : List (List Ty)} {cols : Nat}
theorem Mat.mono {rows' : List (List Ty)} (h : Mat D rows cols) (hs : ∀ r ∈ rows', r ∈ rows) : Mat D rows' cols :=
 ⟨fun r hr => h.len r (hs r hr), fun r hr => h.wf r (hs r hr), fun k => (h.agr k).mono (sub.of fun p hp => by
  obtain ⟨r, h1, h2⟩ := col_mem.1 hp
  exact col_mem.2 ⟨r, hs r h1, h2⟩)⟩
theorem first_col {p : Ty} (h : p ∈ first rows) : p ∈ col rows 0 ∧ free p = false := by
 obtain ⟨t, h1, h2⟩ := first_mem.1 h
 exact ⟨col_mem.2 ⟨_, h1, rfl⟩, h2⟩
theorem col_first {p : Ty} (h : p ∈ col rows 0) (hf : free p = false) : p ∈ first rows := by
 obtain ⟨r, h1, h2⟩ := col_mem.1 h
 cases r with
 | nil => cases h2
 | cons q t =>
  simp only [List.getElem?_cons_zero, Option.some.injEq] at h2
  subst h2
  exact first_mem.2 ⟨t, h1, hf⟩
theorem Mat.tail {rows' : List (List Ty)} (h : Mat D rows (cols + 1)) (hs : ∀ t ∈ rows', ∃ p, p :: t ∈ rows) : Mat D rows' cols :=
 ⟨fun t ht => by
  obtain ⟨p, hp⟩ := hs t ht
  have := h.len _ hp
  simpa using this, fun t ht q hq => by
  obtain ⟨p, hp⟩ := hs t ht
  exact h.wf _ hp q (.tail _ hq), fun k => (h.agr (k + 1)).mono (sub.of fun x hx => by
  obtain ⟨t, h1, h2⟩ := col_mem.1 hx
  obtain ⟨p, hp⟩ := hs t h1
  exact col_mem.2 ⟨_, hp, by simpa using h2⟩)⟩
theorem col_tail {rows' : List (List Ty)} (hs : ∀ t ∈ rows', ∃ p, p :: t ∈ rows) (k : Nat) : sub (col rows' k) (col rows (k + 1)) := sub.of fun x hx => by
 obtain ⟨t, h1, h2⟩ := col_mem.1 hx
 obtain ⟨p, hp⟩ := hs t h1
 exact col_mem.2 ⟨_, hp, by simpa using h2⟩
theorem anys_len (n : Nat) : (anys n).length = n := List.length_replicate
theorem anys_get {n k : Nat} {x : Ty} (h : (anys n)[k]? = some x) : x = anyT := List.eq_of_mem_replicate (List.mem_of_getElem? h)
theorem col_narrow {c : Co} (hN : ∀ p t, p :: t ∈ rows → free p = false → p.name = c.name → p.args.length = c.many) : (∀ k, k < c.many → sub (col (narrow rows c.name c.many) k) (under (col rows 0) c.name k)) ∧ ∀ k, sub (col (narrow rows c.name c.many) (c.many + k)) (col rows (k + 1)) := by
 constructor
 ·intro k hk x hx hf
  obtain ⟨s, h1, h2⟩ := col_mem.1 hx
  obtain ⟨p, t, h3, h4⟩ := narrow_mem.1 h1
  rcases h4 with ⟨_, rfl⟩ | ⟨h4, h5, rfl⟩
  ·rw [List.getElem?_append_left (by rw [anys_len]; exact hk)] at h2
   rw [anys_get h2] at hf
   cases hf
  ·rw [List.getElem?_append_left (by rw [hN p t h3 h4 h5]; exact hk)] at h2
   exact under_mem.2 ⟨p, col_mem.2 ⟨_, h3, rfl⟩, h4, h5, h2⟩
 ·intro k x hx hf
  obtain ⟨s, h1, h2⟩ := col_mem.1 hx
  obtain ⟨p, t, h3, h4⟩ := narrow_mem.1 h1
  refine col_mem.2 ⟨_, h3, ?_⟩
  rw [List.getElem?_cons_succ]
  rcases h4 with ⟨_, rfl⟩ | ⟨h4, h5, rfl⟩
  ·rw [List.getElem?_append_right (by rw [anys_len]; omega), anys_len, Nat.add_sub_cancel_left] at h2
   exact h2
  ·rw [List.getElem?_append_right (by rw [hN p t h3 h4 h5]; omega), hN p t h3 h4 h5, Nat.add_sub_cancel_left] at h2
   exact h2
theorem Mat.arity (h : Mat D rows cols) {c : Co} {d : Nat} (hc : conAt D c.name = some (d, c)) (h3 : ∀ p ∈ first rows, p.kind = 3) : ∀ p t, p :: t ∈ rows → free p = false → p.name = c.name → p.args.length = c.many := fun p t hp hf hn => by
 obtain ⟨d', c', e1, e2, _⟩ := (h.wf _ hp p (.head _)).cons (h3 p (first_mem.2 ⟨t, hp, hf⟩))
 rw [hn, hc] at e1
 cases e1
 exact e2
theorem Mat.narrow (h : Mat D rows (cols + 1)) {c : Co} {d : Nat} (hc : conAt D c.name = some (d, c)) (h3 : ∀ p ∈ first rows, p.kind = 3) : Mat D (narrow rows c.name c.many) (c.many + cols) := by
 have hN := h.arity hc h3
 obtain ⟨c1, c2⟩ := col_narrow hN
 have hk : ∀ p ∈ col rows 0, free p = false → p.kind = 3 := fun p hp hf => h3 p (col_first hp hf)
 refine ⟨fun s hs => ?_, fun s hs q hq => ?_, fun k => ?_⟩
 ·obtain ⟨p, t, h1, h2⟩ := narrow_mem.1 hs
  have e := h.len _ h1
  simp only [List.length_cons] at e
  rcases h2 with ⟨_, rfl⟩ | ⟨h4, h5, rfl⟩
  ·rw [List.length_append, anys_len]
   omega
  ·rw [List.length_append, hN p t h1 h4 h5]
   omega
 ·obtain ⟨p, t, h1, h2⟩ := narrow_mem.1 hs
  rcases h2 with ⟨_, rfl⟩ | ⟨h4, h5, rfl⟩
  ·rcases List.mem_append.1 hq with hq | hq
   ·rw [List.eq_of_mem_replicate hq]
    exact Wf.any D
   ·exact h.wf _ h1 q (.tail _ hq)
  ·rcases List.mem_append.1 hq with hq | hq
   ·obtain ⟨_, _, _, _, hw⟩ := (h.wf _ h1 p (.head _)).cons (h3 p (first_mem.2 ⟨t, h1, h4⟩))
    exact hw q hq
   ·exact h.wf _ h1 q (.tail _ hq)
 ·by_cases hkn : k < c.many
  ·exact ((h.agr 0).under hk _ _).mono (c1 k hkn)
  ·obtain ⟨j, rfl⟩ : ∃ j, k = c.many + j := ⟨k - c.many, by omega⟩
   exact (h.agr (j + 1)).mono (c2 j)
theorem Mat.kinds (h : Mat D rows (cols + 1)) {p q : Ty} (hp : p ∈ first rows) (hq : q ∈ first rows) : p.kind = q.kind ∧ (p.kind = 3 → dOf D p.name = dOf D q.name) := by
 obtain ⟨p1, p2⟩ := first_col hp
 obtain ⟨q1, q2⟩ := first_col hq
 cases h.agr 0 with
 | mk hk _ => exact hk p p1 q q1 p2 q2
theorem Mat.wf_first (h : Mat D rows cols) {p : Ty} (hp : p ∈ first rows) : Wf D p ∧ (p.kind = 2 ∨ p.kind = 3) := by
 obtain ⟨t, h1, h2⟩ := first_mem.1 hp
 have := h.wf _ h1 p (.head _)
 exact ⟨this, this.kinds h2⟩
theorem absent_some (hU : Uniq D) (h : Mat D rows (cols + 1)) {p : Ty} (ha : absent D (first rows) = some p) : (∀ q ∈ first rows, fit q p = -1) ∧ Wit D (col rows 0) p := by
 cases hf : first rows with
 | nil =>
  rw [hf] at ha
  cases ha
  exact ⟨fun q hq => (by cases hq), .fr rfl⟩
 | cons x r =>
  have hx : x ∈ first rows := by rw [hf]; exact .head _
  have hwx := h.wf_first hx
  have hall : ∀ q ∈ x :: r, q ∈ first rows := fun q hq => by rw [hf]; exact hq
  rw [hf] at ha
  simp only [absent] at ha
  by_cases hk : x.kind = 2
  ·rw [if_pos hk] at ha
   cases ha
   refine ⟨fun q hq => ?_, .int rfl (first_col hx).1 (first_col hx).2 hk⟩
   have hq2 : q.kind = 2 := by rw [(h.kinds (hall q hq) hx).1, hk]
   rw [fit_int hq2 rfl, if_neg]
   intro e
   exact least_no (ints (x :: r)) (by rw [show (least (ints (x :: r)) : Int) = q.var from e.symm]; exact List.mem_map_of_mem hq)
  ·rw [if_neg hk] at ha
   have hk3 : x.kind = 3 := by omega
   obtain ⟨d, c0, e1, e2, _⟩ := hwx.1.cons hk3
   rw [e1] at ha
   simp only [Option.map_eq_some_iff] at ha
   obtain ⟨c, hc1, hc2⟩ := ha
   have hc3 := List.find?_some hc1
   have hc4 := hU d c (List.mem_of_find?_eq_some hc1)
   subst hc2
   refine ⟨fun q hq => ?_, .con rfl hc4 (anys_len _) (first_col hx).1 (first_col hx).2 hk3 (dOf_of e1) (fun n a ha => .fr (by rw [anys_get ha]; rfl))⟩
   refine fit_name (first_col (hall q hq)).2 rfl ?_ (h.wf_first (hall q hq)).2
   intro e
   simp only [Bool.not_eq_true', List.any_eq_false] at hc3
   exact hc3 q hq (decide_eq_true e)
theorem absent_none (h : Mat D rows (cols + 1)) (ha : absent D (first rows) = none) : ∃ d x, x ∈ first rows ∧ dOf D x.name = some d ∧ (∀ q ∈ first rows, q.kind = 3 ∧ dOf D q.name = some d) ∧ consFor D (first rows) = consOf D d ∧ (∃ c, c ∈ consOf D d) ∧ ∀ c ∈ consOf D d, ∃ q ∈ first rows, q.name = c.name := by
 cases hf : first rows with
 | nil => rw [hf] at ha; cases ha
 | cons x r =>
  have hx : x ∈ first rows := by rw [hf]; exact .head _
  have hall : ∀ q ∈ x :: r, q ∈ first rows := fun q hq => by rw [hf]; exact hq
  have hwx := h.wf_first hx
  rw [hf] at ha
  simp only [absent] at ha
  by_cases hk : x.kind = 2
  ·rw [if_pos hk] at ha; cases ha
  ·rw [if_neg hk] at ha
   have hk3 : x.kind = 3 := by omega
   obtain ⟨d, c0, e1, e2, _⟩ := hwx.1.cons hk3
   rw [e1] at ha
   simp only [Option.map_eq_none_iff, List.find?_eq_none] at ha
   refine ⟨d, x, .head _, dOf_of e1, fun q hq => ?_, ?_, ⟨c0, (conAt_mem e1).1⟩, fun c hc => ?_⟩
   ·have e := h.kinds (hall q hq) hx
    have e3 : q.kind = 3 := by rw [e.1, hk3]
    exact ⟨e3, by rw [e.2 e3, dOf_of e1]⟩
   ·simp only [consFor]
    rw [e1]
   ·have := ha c hc
    simp only [Bool.not_eq_true', Bool.not_eq_false, List.any_eq_true, decide_eq_true_eq] at this
    exact this
/-! fits of narrowed rows -/
theorem row_cons (h : Mat D rows (cols + 1)) {r : List Ty} (hr : r ∈ rows) : ∃ p t, r = p :: t ∧ t.length = cols := by
 cases r with
 | nil => have := h.len _ hr; simp at this
 | cons p t => exact ⟨p, t, rfl, by have := h.len _ hr; simpa using this⟩
theorem narrow_up (h : Mat D rows (cols + 1)) {c : Co} {d : Nat} (hc : conAt D c.name = some (d, c)) (h3 : ∀ p ∈ first rows, p.kind = 3) {va vs : List Ty} (hv : va.length = c.many) (hn : ∀ s ∈ narrow rows c.name c.many, fitA s (va ++ vs) = -1) : ∀ r ∈ rows, fitA r (.mk 3 c.name 0 va :: vs) = -1 := fun r hr => by
 obtain ⟨p, t, rfl, ht⟩ := row_cons h hr
 have hN := h.arity hc h3
 have ht1 := fitA_range t vs
 rw [fitA]
 by_cases hp : free p = true
 ·have := hn _ (narrow_mem.2 ⟨p, t, hr, .inl ⟨hp, rfl⟩⟩)
  rw [fitA_app _ _ _ _ (by rw [anys_len, hv]), fitA_anys] at this
  rw [fit_free hp]
  omega
 ·have hp : free p = false := by simpa using hp
  have hpf := first_mem.2 ⟨t, hr, hp⟩
  by_cases e : p.name = c.name
  ·have := hn _ (narrow_mem.2 ⟨p, t, hr, .inr ⟨hp, e, rfl⟩⟩)
   rw [fitA_app _ _ _ _ (by rw [hN p t hr hp e, hv])] at this
   rw [fit_con (v := .mk 3 c.name 0 va) (h3 p hpf) rfl e (by rw [hN p t hr hp e]; exact hv.symm)]
   exact this
  ·rw [fit_name (v := .mk 3 c.name 0 va) hp rfl e (.inr (h3 p hpf))]
   omega
theorem narrow_down (h : Mat D rows (cols + 1)) {c : Co} {d : Nat} (hc : conAt D c.name = some (d, c)) (h3 : ∀ p ∈ first rows, p.kind = 3) {v : Ty} {vs : List Ty} (hk : v.kind = 3) (hv : v.name = c.name) (hl : v.args.length = c.many) (hn : ∀ r ∈ rows, fitA r (v :: vs) = -1) : ∀ s ∈ narrow rows c.name c.many, fitA s (v.args ++ vs) = -1 := fun s hs => by
 obtain ⟨p, t, hr, h2⟩ := narrow_mem.1 hs
 have hN := h.arity hc h3
 have e := hn _ hr
 have ht1 := fitA_range t vs
 rw [fitA] at e
 rcases h2 with ⟨hp, rfl⟩ | ⟨hp, en, rfl⟩
 ·rw [fitA_app _ _ _ _ (by rw [anys_len, hl]), fitA_anys]
  rw [fit_free hp] at e
  exact e
 ·have hpf := first_mem.2 ⟨t, hr, hp⟩
  rw [fitA_app _ _ _ _ (by rw [hN p t hr hp en, hl])]
  rw [fit_con (h3 p hpf) hk (by rw [en, hv]) (by rw [hN p t hr hp en, hl])] at e
  exact e
theorem narrow_unknown (h : Mat D rows (cols + 1)) {c : Co} {d : Nat} (hc : conAt D c.name = some (d, c)) (h3 : ∀ p ∈ first rows, p.kind = 3) {v : Ty} {vs : List Ty} (hf : free v = true) (hn : ∀ r ∈ rows, fitA r (v :: vs) = -1) : ∀ s ∈ narrow rows c.name c.many, fitA s (anys c.many ++ vs) = -1 := fun s hs => by
 obtain ⟨p, t, hr, h2⟩ := narrow_mem.1 hs
 have hN := h.arity hc h3
 have e := hn _ hr
 have ht1 := fitA_range t vs
 rw [fitA] at e
 have e2 : fitA t vs = -1 := by
  by_cases hp : free p = true
  ·rw [fit_free hp] at e
   omega
  ·rw [fit_unknown (by simpa using hp) hf] at e
   omega
 rcases h2 with ⟨hp, rfl⟩ | ⟨hp, en, rfl⟩
 ·rw [fitA_app _ _ _ _ (by rw [anys_len]), fitA_anys, e2]
  rfl
 ·rw [fitA_app _ _ _ _ (by rw [hN p t hr hp en, anys_len]), e2]
  have := fitA_range p.args (anys c.many)
  omega
theorem rest_down (h : Mat D rows (cols + 1)) {v : Ty} {vs : List Ty} (hn : ∀ r ∈ rows, fitA r (v :: vs) = -1) : ∀ s ∈ rest rows, fitA s vs = -1 := fun s hs => by
 obtain ⟨p, hp, hf⟩ := rest_mem.1 hs
 have e := hn _ hp
 have := fitA_range s vs
 rw [fitA, fit_free hf] at e
 omega
theorem rest_up (h : Mat D rows (cols + 1)) {v : Ty} {vs : List Ty} (hv : ∀ q ∈ first rows, fit q v = -1) (hn : ∀ s ∈ rest rows, fitA s vs = -1) : ∀ r ∈ rows, fitA r (v :: vs) = -1 := fun r hr => by
 obtain ⟨p, t, rfl, ht⟩ := row_cons h hr
 have ht1 := fitA_range t vs
 rw [fitA]
 by_cases hp : free p = true
 ·rw [fit_free hp, hn t (rest_mem.2 ⟨p, hr, hp⟩)]
  rfl
 ·rw [hv p (first_mem.2 ⟨t, hr, by simpa using hp⟩)]
  omega
/-! what is missing -/
def WitV (D : List Da) (rows : List (List Ty)) (vs : List Ty) : Prop := ∀ (k : Nat) (x : Ty), vs[k]? = some x → Wit D (col rows k) x
def OkV (D : List Da) (rows : List (List Ty)) (vs : List Ty) : Prop := ∀ (k : Nat) (x : Ty), vs[k]? = some x → Okv D (col rows k) x
theorem WitV.ok (h : Mat D rows cols) {vs : List Ty} (hw : WitV D rows vs) : OkV D rows vs := fun k x hx => (hw k x hx).ok (h.agr k)
theorem rest_tail : ∀ t ∈ rest rows, ∃ p, p :: t ∈ rows := fun t ht => by
 obtain ⟨p, h, _⟩ := rest_mem.1 ht
 exact ⟨p, h⟩
theorem leftI_tail (n : Int) : ∀ t ∈ leftI rows n, ∃ p, p :: t ∈ rows := fun t ht => by
 obtain ⟨p, h, _⟩ := leftI_mem.1 ht
 exact ⟨p, h⟩
theorem WitV.cons {rows' : List (List Ty)} (hs : ∀ t ∈ rows', ∃ p, p :: t ∈ rows) {v : Ty} {vs : List Ty} (hv : Wit D (col rows 0) v) (h : WitV D rows' vs) : WitV D rows (v :: vs) := fun k x hx => by
 cases k with
 | zero =>
  simp only [List.getElem?_cons_zero, Option.some.injEq] at hx
  subst hx
  exact hv
 | succ k => exact (h k x (by simpa using hx)).mono (col_tail hs k)
theorem WitV.narrow (h : Mat D rows (cols + 1)) {c : Co} {d : Nat} (hc : conAt D c.name = some (d, c)) (h3 : ∀ p ∈ first rows, p.kind = 3) {x : Ty} (hx : x ∈ first rows) (hd : dOf D x.name = some d) {va vs : List Ty} (hl : va.length = c.many) (hw : WitV D (narrow rows c.name c.many) (va ++ vs)) : WitV D rows (.mk 3 c.name 0 va :: vs) := fun k y hy => by
 obtain ⟨c1, c2⟩ := col_narrow (h.arity hc h3)
 cases k with
 | zero =>
  simp only [List.getElem?_cons_zero, Option.some.injEq] at hy
  subst hy
  refine .con rfl hc hl (first_col hx).1 (first_col hx).2 (h3 x hx) hd (fun n a ha => ?_)
  have ha : va[n]? = some a := ha
  have hn := (List.getElem?_eq_some_iff.1 ha).1
  exact (hw n a (by rw [List.getElem?_append_left hn]; exact ha)).mono (c1 n (by omega))
 | succ k =>
  refine (hw (c.many + k) y ?_).mono (c2 k)
  rw [List.getElem?_append_right (by omega), show c.many + k - va.length = k by omega]
  simpa using hy
theorem OkV.narrow (h : Mat D rows (cols + 1)) {c : Co} {d : Nat} (hc : conAt D c.name = some (d, c)) (h3 : ∀ p ∈ first rows, p.kind = 3) {va vs : List Ty} (hl : va.length = c.many) (ha : ∀ (n : Nat) (a : Ty), va[n]? = some a → Okv D (under (col rows 0) c.name n) a) (hs : ∀ (k : Nat) (x : Ty), vs[k]? = some x → Okv D (col rows (k + 1)) x) : OkV D (narrow rows c.name c.many) (va ++ vs) := fun k y hy => by
 obtain ⟨c1, c2⟩ := col_narrow (h.arity hc h3)
 by_cases hk : k < c.many
 ·rw [List.getElem?_append_left (by omega)] at hy
  exact (ha k y hy).mono (c1 k hk)
 ·obtain ⟨j, rfl⟩ : ∃ j, k = c.many + j := ⟨k - c.many, by omega⟩
  rw [List.getElem?_append_right (by omega), show c.many + j - va.length = j by omega] at hy
  exact (hs j y hy).mono (c2 j)
theorem OkV.tail {v : Ty} {vs : List Ty} (h : OkV D rows (v :: vs)) : ∀ (k : Nat) (x : Ty), vs[k]? = some x → Okv D (col rows (k + 1)) x := fun k x hx => h (k + 1) x (by simpa using hx)
theorem OkV.rest {rows' : List (List Ty)} (hs : ∀ t ∈ rows', ∃ p, p :: t ∈ rows) {v : Ty} {vs : List Ty} (h : OkV D rows (v :: vs)) : OkV D rows' vs := fun k x hx => (h.tail k x hx).mono (col_tail hs k)
theorem OkV.mono {rows' : List (List Ty)} (hs : ∀ r ∈ rows', r ∈ rows) {vs : List Ty} (h : OkV D rows vs) : OkV D rows' vs := fun k x hx => (h k x hx).mono (sub.of fun p hp => by
 obtain ⟨r, h1, h2⟩ := col_mem.1 hp
 exact col_mem.2 ⟨r, hs r h1, h2⟩)
theorem missing_sound (hU : Uniq D) : ∀ (f : Nat) (rows : List (List Ty)) (cols : Nat), Mat D rows cols → (missingE D f rows cols).2 = true → (missingE D f rows cols).1.length = cols ∧ (∀ r ∈ rows, fitA r (missingE D f rows cols).1 = -1)
 | 0, rows, cols, _, h => by cases h
 | f + 1, rows, 0, _, h => by
  simp only [missingE, decide_eq_true_eq, List.length_eq_zero_iff] at h
  subst h
  exact ⟨rfl, fun r hr => by cases hr⟩
 | f + 1, rows, cols + 1, hM, h => by
  simp only [missingE] at h ⊢
  cases ha : absent D (first rows) with
  | some p =>
   rw [ha] at h
   simp only at h ⊢
   obtain ⟨h1, h2⟩ := missing_sound hU f (rest rows) cols (hM.tail rest_tail) h
   exact ⟨by rw [List.length_cons, h1], rest_up hM (absent_some hU hM ha).1 h2⟩
  | none =>
   rw [ha] at h
   simp only at h ⊢
   obtain ⟨d, x, hx, hd, hall, hcf, _, _⟩ := absent_none hM ha
   rw [hcf] at h ⊢
   have key : ∀ l : List Co, (∀ c ∈ l, c ∈ consOf D d) → (missLoop (missingE D f) rows cols l).2 = true → (missLoop (missingE D f) rows cols l).1.length = cols + 1 ∧ ∀ r ∈ rows, fitA r (missLoop (missingE D f) rows cols l).1 = -1 := fun l => by
    induction l with
    | nil => intro _ h; cases h
    | cons c l ih =>
     intro hl h
     unfold missLoop at h ⊢
     by_cases hc : (missingE D f (narrow rows c.name c.many) (c.many + cols)).2 = true
     ·rw [if_pos hc]
      have hcc := hU d c (hl c (.head _))
      have h3 : ∀ q ∈ first rows, q.kind = 3 := fun q hq => (hall q hq).1
      obtain ⟨h1, h2⟩ := missing_sound hU f _ _ (hM.narrow hcc h3) hc
      refine ⟨by simp; omega, narrow_up hM hcc h3 (by rw [List.length_take]; omega) (fun s hs => ?_)⟩
      rw [List.take_append_drop]
      exact h2 s hs
     ·rw [if_neg hc] at h ⊢
      exact ih (fun c hc => hl c (.tail _ hc)) h
   exact key _ (fun c hc => hc) h
theorem missing_useful : ∀ (f : Nat) (rows : List (List Ty)) (cols : Nat), (missingE D f rows cols).2 = usefulE D f rows (anys cols)
 | 0, _, _ => rfl
 | f + 1, rows, 0 => rfl
 | f + 1, rows, cols + 1 => by
  show _ = usefulE D (f + 1) rows (anyT :: anys cols)
  simp only [missingE, usefulE]
  rw [if_neg (by decide), if_neg (by decide)]
  cases ha : absent D (first rows) with
  | some p => exact missing_useful f _ _
  | none =>
   simp only
   generalize consFor D (first rows) = l
   induction l with
   | nil => rfl
   | cons c l ih =>
    have e := missing_useful f (narrow rows c.name c.many) (c.many + cols)
    have e2 : anys (c.many + cols) = anys c.many ++ anys cols := List.replicate_append_replicate.symm
    rw [e2] at e
    unfold missLoop
    rw [List.any_cons, ← e, ← ih]
    by_cases hc : (missingE D f (narrow rows c.name c.many) (c.many + cols)).2 = true
    ·rw [if_pos hc, hc]
     rfl
    ·rw [if_neg hc]
     simp only [Bool.not_eq_true] at hc
     rw [hc, Bool.false_or]
theorem useful_sound (hU : Uniq D) : ∀ (f : Nat) (rows : List (List Ty)) (row : List Ty), Mat D (row :: rows) row.length → usefulE D f rows row = true → ∃ u, u.length = row.length ∧ fitA row u = 1 ∧ (∀ r ∈ rows, fitA r u = -1) ∧ WitV D (row :: rows) u
 | 0, _, _, _, h => by cases h
 | f + 1, rows, [], hM, h => by
  simp only [usefulE, decide_eq_true_eq, List.length_eq_zero_iff] at h
  subst h
  exact ⟨[], rfl, rfl, fun r hr => (by cases hr), fun k x hx => (by simp at hx)⟩
 | f + 1, rows, p :: t, hM, h => by
  have hMr : Mat D rows (t.length + 1) := hM.mono (fun r hr => .tail _ hr)
  have hM1 : Mat D ((p :: t) :: rows) (t.length + 1) := hM
  have hwp : Wf D p := hM.wf _ (.head _) p (.head _)
  rw [usefulE] at h
  by_cases hk3 : p.kind = 3
  ·rw [if_pos hk3] at h
   obtain ⟨d, c, e1, e2, e3⟩ := hwp.cons hk3
   have hnm := (conAt_mem e1).2
   have hmo : manyOf D p.name = c.many := by unfold manyOf; rw [e1]
   rw [hmo, ← hnm] at h
   have hcc : conAt D c.name = some (d, c) := by rw [hnm]; exact e1
   have hpf : p ∈ first ((p :: t) :: rows) := first_mem.2 ⟨t, .head _, free_no (.inr hk3)⟩
   have h3 : ∀ q ∈ first ((p :: t) :: rows), q.kind = 3 := fun q hq => by rw [(hM1.kinds hq hpf).1, hk3]
   have h3r : ∀ q ∈ first rows, q.kind = 3 := fun q hq => by
    obtain ⟨s, g1, g2⟩ := first_mem.1 hq
    exact h3 q (first_mem.2 ⟨s, .tail _ g1, g2⟩)
   have hnr : narrow ((p :: t) :: rows) c.name c.many = (p.args ++ t) :: narrow rows c.name c.many := by
    unfold narrow
    rw [List.filterMap_cons]
    simp [free_no (.inr hk3), hnm]
   have hMn := hM1.narrow hcc h3
   rw [hnr] at hMn
   have hll : (p.args ++ t).length = c.many + t.length := by rw [List.length_append, e2]
   obtain ⟨u, u1, u2, u3, u4⟩ := useful_sound hU f (narrow rows c.name c.many) (p.args ++ t) (by rw [hll]; exact hMn) h
   rw [hll] at u1
   have hut : (u.take c.many).length = c.many := by rw [List.length_take]; omega
   have hud : u.take c.many ++ u.drop c.many = u := List.take_append_drop ..
   refine ⟨.mk 3 c.name 0 (u.take c.many) :: u.drop c.many, by rw [List.length_cons, List.length_drop, List.length_cons]; omega, ?_, ?_, ?_⟩
   ·rw [fitA, fit_con (v := .mk 3 c.name 0 (u.take c.many)) hk3 rfl hnm.symm (by rw [e2]; exact hut.symm)]
    rw [← hud, fitA_app _ _ _ _ (by rw [e2, hut])] at u2
    exact u2
   ·exact narrow_up hMr hcc h3r hut (fun s hs => by rw [hud]; exact u3 s hs)
   ·refine WitV.narrow hM1 hcc h3 hpf (dOf_of e1) hut ?_
    rw [hud, hnr]
    exact u4
  rw [if_neg hk3] at h
  by_cases hk2 : p.kind = 2
  ·rw [if_pos hk2] at h
   have hpf : p ∈ first ((p :: t) :: rows) := first_mem.2 ⟨t, .head _, free_no (.inl hk2)⟩
   have hMl : Mat D (t :: leftI rows p.var) t.length := hM1.tail (fun s hs => by
    rcases List.mem_cons.1 hs with rfl | hs
    ·exact ⟨p, .head _⟩
    ·obtain ⟨q, hq⟩ := leftI_tail p.var s hs
     exact ⟨q, .tail _ hq⟩)
   obtain ⟨u, u1, u2, u3, u4⟩ := useful_sound hU f (leftI rows p.var) t hMl h
   refine ⟨.mk 2 ⟨#[]⟩ p.var [] :: u, by rw [List.length_cons, u1, List.length_cons], ?_, fun r hr => ?_, ?_⟩
   ·rw [fitA, fit_int (v := .mk 2 ⟨#[]⟩ p.var []) hk2 rfl, if_pos (show p.var = (Ty.mk 2 ⟨#[]⟩ p.var []).var from rfl), u2]
    rfl
   ·obtain ⟨q, s, rfl, hs⟩ := row_cons hMr hr
    have hr1 := fitA_range s u
    rw [fitA]
    by_cases hq : free q = true
    ·rw [fit_free hq, u3 s (leftI_mem.2 ⟨q, hr, .inl hq⟩)]
     rfl
    ·have hqf : q ∈ first ((p :: t) :: rows) := first_mem.2 ⟨s, .tail _ hr, by simpa using hq⟩
     have hq2 : q.kind = 2 := by rw [(hM1.kinds hqf hpf).1, hk2]
     rw [fit_int (v := .mk 2 ⟨#[]⟩ p.var []) hq2 rfl]
     by_cases hv : q.var = p.var
     ·rw [u3 s (leftI_mem.2 ⟨q, hr, .inr hv⟩)]
      split <;> rfl
     ·rw [if_neg (show ¬ q.var = (Ty.mk 2 ⟨#[]⟩ p.var []).var from hv)]
      omega
   ·exact WitV.cons (rows' := t :: leftI rows p.var) (fun s hs => by
     rcases List.mem_cons.1 hs with rfl | hs
     ·exact ⟨p, .head _⟩
     ·obtain ⟨q, hq⟩ := leftI_tail p.var s hs
      exact ⟨q, .tail _ hq⟩) (.int rfl (first_col hpf).1 (first_col hpf).2 hk2) u4
  rw [if_neg hk2] at h
  have hpf : free p = true := by
   cases hf : free p with
   | true => rfl
   | false => exact absurd (hwp.kinds hf) (by omega)
  have hsub : sub (col rows 0) (col ((p :: t) :: rows) 0) := sub.of fun x hx => by
   obtain ⟨r, g1, g2⟩ := col_mem.1 hx
   exact col_mem.2 ⟨r, .tail _ g1, g2⟩
  cases ha : absent D (first rows) with
  | some v =>
   rw [ha] at h
   simp only at h
   have hMl : Mat D (t :: rest rows) t.length := hM1.tail (fun s hs => by
    rcases List.mem_cons.1 hs with rfl | hs
    ·exact ⟨p, .head _⟩
    ·obtain ⟨q, hq⟩ := rest_tail s hs
     exact ⟨q, .tail _ hq⟩)
   obtain ⟨u, u1, u2, u3, u4⟩ := useful_sound hU f (rest rows) t hMl h
   obtain ⟨a1, a2⟩ := absent_some hU hMr ha
   refine ⟨v :: u, by rw [List.length_cons, u1, List.length_cons], by rw [fitA, fit_free hpf, u2]; rfl, rest_up hMr a1 u3, ?_⟩
   exact WitV.cons (rows' := t :: rest rows) (fun s hs => by
    rcases List.mem_cons.1 hs with rfl | hs
    ·exact ⟨p, .head _⟩
    ·obtain ⟨q, hq⟩ := rest_tail s hs
     exact ⟨q, .tail _ hq⟩) (a2.mono hsub) u4
  | none =>
   rw [ha] at h
   simp only at h
   obtain ⟨d, x, hx, hd, hall, hcf, _, _⟩ := absent_none hMr ha
   rw [hcf, List.any_eq_true] at h
   obtain ⟨c, hc, h⟩ := h
   have hcc := hU d c hc
   have hx1 : x ∈ first ((p :: t) :: rows) := by
    obtain ⟨s, g1, g2⟩ := first_mem.1 hx
    exact first_mem.2 ⟨s, .tail _ g1, g2⟩
   have h3r : ∀ q ∈ first rows, q.kind = 3 := fun q hq => (hall q hq).1
   have h3 : ∀ q ∈ first ((p :: t) :: rows), q.kind = 3 := fun q hq => by rw [(hM1.kinds hq hx1).1, h3r x hx]
   have hnr : narrow ((p :: t) :: rows) c.name c.many = (anys c.many ++ t) :: narrow rows c.name c.many := by
    unfold narrow
    rw [List.filterMap_cons]
    simp [hpf]
   have hMn := hM1.narrow hcc h3
   rw [hnr] at hMn
   have hll : (anys c.many ++ t).length = c.many + t.length := by rw [List.length_append, anys_len]
   obtain ⟨u, u1, u2, u3, u4⟩ := useful_sound hU f (narrow rows c.name c.many) (anys c.many ++ t) (by rw [hll]; exact hMn) h
   rw [hll] at u1
   have hut : (u.take c.many).length = c.many := by rw [List.length_take]; omega
   have hud : u.take c.many ++ u.drop c.many = u := List.take_append_drop ..
   refine ⟨.mk 3 c.name 0 (u.take c.many) :: u.drop c.many, by rw [List.length_cons, List.length_drop, List.length_cons]; omega, ?_, ?_, ?_⟩
   ·rw [fitA, fit_free hpf]
    rw [← hud, fitA_app _ _ _ _ (by rw [anys_len, hut]), fitA_anys] at u2
    exact u2
   ·exact narrow_up hMr hcc h3r hut (fun s hs => by rw [hud]; exact u3 s hs)
   ·refine WitV.narrow hM1 hcc h3 hx1 hd hut ?_
    rw [hud, hnr]
    exact u4
end Go.Pt

/- Plain: weights of rows; a row that some values alone match is useful. No program in sight. No condition. -/
namespace Go.Pt
open Go.Eng
mutual
/-- the weight of a pattern: its nodes that do not match everything, and their fields -/
def wt : Ty → Nat
 | .mk k nm n «as» => if free (.mk k nm n «as») then 0 else 1 + «as».length + wtA «as»
def wtA : List Ty → Nat
 | [] => 0
 | p :: l => wt p + wtA l
end
def wtR : List (List Ty) → Nat
 | [] => 0
 | r :: rs => wtA r + wtR rs
theorem wt_eq (p : Ty) : wt p = if free p then 0 else 1 + p.args.length + wtA p.args := by
 cases p with
 | mk k nm n «as» => rw [wt]; rfl
theorem wtA_app : ∀ (a b : List Ty), wtA (a ++ b) = wtA a + wtA b
 | [], b => by simp [wtA]
 | p :: a, b => by simp only [List.cons_append, wtA, wtA_app a b]; omega
theorem wtA_anys : ∀ n, wtA (anys n) = 0
 | 0 => rfl
 | n + 1 => by
  show wt anyT + wtA (anys n) = 0
  rw [wtA_anys n, wt_eq]
  rfl
theorem wtR_rest : ∀ rows : List (List Ty), wtR (rest rows) ≤ wtR rows
 | [] => Nat.le_refl _
 | [] :: rs => by
  have := wtR_rest rs
  simpa [rest, wtR, wtA] using this
 | (p :: t) :: rs => by
  have ih := wtR_rest rs
  unfold rest at ih ⊢
  rw [List.filterMap_cons]
  by_cases h : free p = true
  ·simp only [h, if_true, wtR, wtA]
   omega
  ·simp only [h, if_false, wtR, wtA, Bool.false_eq_true]
   omega
theorem wtR_leftI (n : Int) : ∀ rows : List (List Ty), wtR (leftI rows n) ≤ wtR rows
 | [] => Nat.le_refl _
 | [] :: rs => by
  have := wtR_leftI n rs
  simpa [leftI, wtR, wtA] using this
 | (p :: t) :: rs => by
  have ih := wtR_leftI n rs
  unfold leftI at ih ⊢
  rw [List.filterMap_cons]
  by_cases h : (free p || decide (p.var = n)) = true
  ·simp only [h, if_true, wtR, wtA]
   omega
  ·simp only [h, if_false, wtR, wtA, Bool.false_eq_true]
   omega
theorem wtR_narrow (nm : ByteArray) (many : Nat) : ∀ rows : List (List Ty), wtR (narrow rows nm many) ≤ wtR rows
 | [] => Nat.le_refl _
 | [] :: rs => by
  have := wtR_narrow nm many rs
  simpa [narrow, wtR, wtA] using this
 | (p :: t) :: rs => by
  have ih := wtR_narrow nm many rs
  unfold narrow at ih ⊢
  rw [List.filterMap_cons]
  by_cases h : free p = true
  ·simp only [h, if_true, wtR, wtA, wtA_app, wtA_anys]
   omega
  ·have e := wt_eq p
   rw [if_neg h] at e
   by_cases hn : p.name = nm
   ·simp only [h, hn, if_false, if_true, wtR, wtA, wtA_app, Bool.false_eq_true]
    omega
   ·simp only [h, hn, if_false, wtR, wtA, Bool.false_eq_true]
    omega
theorem wtR_occurs {nm : ByteArray} {many : Nat} : ∀ {rows : List (List Ty)}, (∃ q ∈ first rows, q.name = nm ∧ q.args.length = many) → wtR (narrow rows nm many) + (1 + many) ≤ wtR rows
 | [], h => by
  obtain ⟨q, hq, _⟩ := h
  cases hq
 | [] :: rs, h => by
  have := wtR_occurs (nm := nm) (many := many) (rows := rs) (by simpa [first] using h)
  simpa [narrow, wtR, wtA] using this
 | (p :: t) :: rs, h => by
  by_cases hf : free p = true
  ·have ih := wtR_occurs (nm := nm) (many := many) (rows := rs) (by
    obtain ⟨q, hq, h2⟩ := h
    obtain ⟨s, g1, g2⟩ := first_mem.1 hq
    rcases List.mem_cons.1 g1 with g1 | g1
    ·cases g1
     rw [hf] at g2
     cases g2
    ·exact ⟨q, first_mem.2 ⟨s, g1, g2⟩, h2⟩)
   unfold narrow at ih ⊢
   rw [List.filterMap_cons]
   simp only [hf, if_true, wtR, wtA, wtA_app, wtA_anys]
   omega
  ·have e := wt_eq p
   rw [if_neg hf] at e
   by_cases hp : p.name = nm ∧ p.args.length = many
   ·have ih := wtR_narrow nm many rs
    unfold narrow at ih ⊢
    rw [List.filterMap_cons]
    simp only [hf, hp.1, if_false, if_true, wtR, wtA, wtA_app, Bool.false_eq_true]
    omega
   ·have ih := wtR_occurs (nm := nm) (many := many) (rows := rs) (by
     obtain ⟨q, hq, h2⟩ := h
     obtain ⟨s, g1, g2⟩ := first_mem.1 hq
     rcases List.mem_cons.1 g1 with g1 | g1
     ·cases g1
      exact absurd h2 hp
     ·exact ⟨q, first_mem.2 ⟨s, g1, g2⟩, h2⟩)
    unfold narrow at ih ⊢
    rw [List.filterMap_cons]
    by_cases hn : p.name = nm
    ·simp only [hf, hn, if_false, if_true, wtR, wtA, wtA_app, Bool.false_eq_true]
     omega
    ·simp only [hf, hn, if_false, wtR, wtA, Bool.false_eq_true]
     omega
variable {D : List Da} {rows : List (List Ty)} {cols : Nat}
theorem occurs (hU : Uniq D) (h : Mat D rows (cols + 1)) {d : Nat} (hall : ∀ q ∈ first rows, q.kind = 3 ∧ dOf D q.name = some d) (hcon : ∀ c ∈ consOf D d, ∃ q ∈ first rows, q.name = c.name) {c : Co} (hc : c ∈ consOf D d) : wtR (narrow rows c.name c.many) + (1 + c.many) ≤ wtR rows := by
 obtain ⟨q, hq, hn⟩ := hcon c hc
 obtain ⟨t, g1, g2⟩ := first_mem.1 hq
 exact wtR_occurs ⟨q, hq, hn, h.arity (hU d c hc) (fun p hp => (hall p hp).1) q t g1 g2 hn⟩
theorem useful_complete (hU : Uniq D) : ∀ (f : Nat) (rows : List (List Ty)) (row v : List Ty), Mat D (row :: rows) row.length → v.length = row.length → fitA row v = 1 → (∀ r ∈ rows, fitA r v = -1) → OkV D (row :: rows) v → wtR rows + wtA row + row.length < f → usefulE D f rows row = true
 | 0, _, _, _, _, _, _, _, _, h => by omega
 | f + 1, rows, [], v, hM, hl, h1, h2, h3, _ => by
  simp only [usefulE, decide_eq_true_eq, List.length_eq_zero_iff]
  cases rows with
  | nil => rfl
  | cons r rs =>
   have e := hM.len r (.tail _ (.head _))
   have := h2 r (.head _)
   rw [List.length_eq_zero_iff.1 e] at this
   simp [fitA] at this
 | f + 1, rows, p :: t, [], hM, hl, h1, h2, h3, hf => by simp at hl
 | f + 1, rows, p :: t, v :: vs, hM, hl, h1, h2, h3, hf => by
  have hMr : Mat D rows (t.length + 1) := hM.mono (fun r hr => .tail _ hr)
  have hM1 : Mat D ((p :: t) :: rows) (t.length + 1) := hM
  have hwp : Wf D p := hM.wf _ (.head _) p (.head _)
  have hvl : vs.length = t.length := by simpa using hl
  have hr1 := fitA_range t vs
  have hr2 := fit_range p v
  rw [fitA] at h1
  have hp1 : fit p v = 1 := by omega
  have ht1 : fitA t vs = 1 := by omega
  simp only [wtA, List.length_cons] at hf
  rw [usefulE]
  by_cases hk3 : p.kind = 3
  ·rw [if_pos hk3]
   obtain ⟨d, c, e1, e2, e3⟩ := hwp.cons hk3
   have hnm := (conAt_mem e1).2
   have hmo : manyOf D p.name = c.many := by unfold manyOf; rw [e1]
   rw [hmo, ← hnm]
   have hcc : conAt D c.name = some (d, c) := by rw [hnm]; exact e1
   have hpf : p ∈ first ((p :: t) :: rows) := first_mem.2 ⟨t, .head _, free_no (.inr hk3)⟩
   have h33 : ∀ q ∈ first ((p :: t) :: rows), q.kind = 3 := fun q hq => by rw [(hM1.kinds hq hpf).1, hk3]
   have h3r : ∀ q ∈ first rows, q.kind = 3 := fun q hq => by
    obtain ⟨s, g1, g2⟩ := first_mem.1 hq
    exact h33 q (first_mem.2 ⟨s, .tail _ g1, g2⟩)
   have hnr : narrow ((p :: t) :: rows) c.name c.many = (p.args ++ t) :: narrow rows c.name c.many := by
    unfold narrow
    rw [List.filterMap_cons]
    simp [free_no (.inr hk3), hnm]
   have hMn := hM1.narrow hcc h33
   rw [hnr] at hMn
   have hll : (p.args ++ t).length = c.many + t.length := by rw [List.length_append, e2]
   have hvf : free v = false := by
    cases hv : free v with
    | false => rfl
    | true => rw [fit_unknown (free_no (.inr hk3)) hv] at hp1; omega
   obtain ⟨k1, k2, k3⟩ := fit_known (free_no (.inr hk3)) hvf (by omega)
   obtain ⟨k4, k5, k6⟩ := k3 hk3
   have hv3 : v.kind = 3 := by rw [← k1, hk3]
   have hal : v.args.length = c.many := by rw [← k5, e2]
   refine useful_complete hU f _ _ (v.args ++ vs) (by rw [hll]; exact hMn) (by rw [hll, List.length_append, hal, hvl]) ?_ (narrow_down hMr hcc h3r hv3 (by rw [← k4, hnm]) hal h2) ?_ ?_
   ·rw [fitA_app _ _ _ _ k5, ← k6, hp1, ht1]
    rfl
   ·rw [← hnr]
    refine OkV.narrow hM1 hcc h33 hal (fun n a ha => ?_) h3.tail
    cases h3 0 v rfl with
    | fr h => rw [hvf] at h; cases h
    | int h _ => omega
    | con _ _ _ _ hargs =>
     have := hargs n a ha
     rwa [← k4, ← hnm] at this
   ·have g1 := wtR_narrow c.name c.many rows
    have g2 := wt_eq p
    rw [if_neg (by rw [free_no (.inr hk3)]; decide)] at g2
    rw [wtA_app, hll]
    omega
  rw [if_neg hk3]
  by_cases hk2 : p.kind = 2
  ·rw [if_pos hk2]
   have hpf : p ∈ first ((p :: t) :: rows) := first_mem.2 ⟨t, .head _, free_no (.inl hk2)⟩
   have hMl : Mat D (t :: leftI rows p.var) t.length := hM1.tail (fun s hs => by
    rcases List.mem_cons.1 hs with rfl | hs
    ·exact ⟨p, .head _⟩
    ·obtain ⟨q, hq⟩ := leftI_tail p.var s hs
     exact ⟨q, .tail _ hq⟩)
   have hvf : free v = false := by
    cases hv : free v with
    | false => rfl
    | true => rw [fit_unknown (free_no (.inl hk2)) hv] at hp1; omega
   obtain ⟨k1, k2, _⟩ := fit_known (free_no (.inl hk2)) hvf (by omega)
   have hv2 : v.kind = 2 := by rw [← k1, hk2]
   have hvv := k2 hk2
   refine useful_complete hU f _ _ vs hMl hvl ht1 (fun s hs => ?_) (OkV.rest (fun s hs => ?_) h3) ?_
   ·obtain ⟨q, hq, h⟩ := leftI_mem.1 hs
    have e := h2 _ hq
    have hr := fitA_range s vs
    rw [fitA] at e
    by_cases hqf : free q = true
    ·rw [fit_free hqf] at e
     omega
    ·have hqm : q ∈ first ((p :: t) :: rows) := first_mem.2 ⟨s, .tail _ hq, by simpa using hqf⟩
     have hq2 : q.kind = 2 := by rw [(hM1.kinds hqm hpf).1, hk2]
     rw [fit_int hq2 hv2, if_pos ((h.resolve_left hqf).trans hvv)] at e
     omega
   ·rcases List.mem_cons.1 hs with rfl | hs
    ·exact ⟨p, .head _⟩
    ·obtain ⟨q, hq⟩ := leftI_tail p.var s hs
     exact ⟨q, .tail _ hq⟩
   ·have g1 := wtR_leftI p.var rows
    omega
  rw [if_neg hk2]
  have hpf : free p = true := by
   cases hf : free p with
   | true => rfl
   | false => exact absurd (hwp.kinds hf) (by omega)
  cases ha : absent D (first rows) with
  | some w =>
   simp only
   have hMl : Mat D (t :: rest rows) t.length := hM1.tail (fun s hs => by
    rcases List.mem_cons.1 hs with rfl | hs
    ·exact ⟨p, .head _⟩
    ·obtain ⟨q, hq⟩ := rest_tail s hs
     exact ⟨q, .tail _ hq⟩)
   refine useful_complete hU f _ _ vs hMl hvl ht1 (rest_down hMr h2) (OkV.rest (fun s hs => ?_) h3) ?_
   ·rcases List.mem_cons.1 hs with rfl | hs
    ·exact ⟨p, .head _⟩
    ·obtain ⟨q, hq⟩ := rest_tail s hs
     exact ⟨q, .tail _ hq⟩
   ·have g1 := wtR_rest rows
    omega
  | none =>
   simp only
   obtain ⟨d, x, hx, hd, hall, hcf, ⟨c0, hc0⟩, hcon⟩ := absent_none hMr ha
   have hx1 : x ∈ first ((p :: t) :: rows) := by
    obtain ⟨s, g1, g2⟩ := first_mem.1 hx
    exact first_mem.2 ⟨s, .tail _ g1, g2⟩
   have h3r : ∀ q ∈ first rows, q.kind = 3 := fun q hq => (hall q hq).1
   have h33 : ∀ q ∈ first ((p :: t) :: rows), q.kind = 3 := fun q hq => by rw [(hM1.kinds hq hx1).1, h3r x hx]
   rw [hcf, List.any_eq_true]
   have hnr : ∀ c : Co, narrow ((p :: t) :: rows) c.name c.many = (anys c.many ++ t) :: narrow rows c.name c.many := fun c => by
    unfold narrow
    rw [List.filterMap_cons]
    simp [hpf]
   have hll : ∀ c : Co, (anys c.many ++ t).length = c.many + t.length := fun c => by rw [List.length_append, anys_len]
   have go : ∀ (c : Co) (va : List Ty), c ∈ consOf D d → va.length = c.many → (∀ s ∈ narrow rows c.name c.many, fitA s (va ++ vs) = -1) → (∀ (n : Nat) (a : Ty), va[n]? = some a → Okv D (under (col ((p :: t) :: rows) 0) c.name n) a) → ∃ c ∈ consOf D d, usefulE D f (narrow rows c.name c.many) (anys c.many ++ t) = true := fun c va hc hva hn hok => by
    have hcc := hU d c hc
    have hMn := hM1.narrow hcc h33
    rw [hnr] at hMn
    refine ⟨c, hc, useful_complete hU f _ _ (va ++ vs) (by rw [hll]; exact hMn) (by rw [hll, List.length_append, hva, hvl]) ?_ hn ?_ ?_⟩
    ·rw [fitA_app _ _ _ _ (by rw [anys_len, hva]), fitA_anys, ht1]
     rfl
    ·rw [← hnr]
     exact OkV.narrow hM1 hcc h33 hva hok h3.tail
    ·have g1 := occurs hU hMr hall hcon hc
     rw [wtA_app, wtA_anys, hll]
     omega
   cases h3 0 v rfl with
   | fr h => exact go c0 (anys c0.many) hc0 (anys_len _) (narrow_unknown hMr (hU d c0 hc0) h3r h h2) (fun n a ha => .fr (by rw [anys_get ha]; rfl))
   | int h hp =>
    have := hp x (first_col hx1).1 (first_col hx1).2
    have := h3r x hx
    omega
   | con h hc hl2 hp hargs =>
    rename_i d' c'
    have e := (hp x (first_col hx1).1 (first_col hx1).2).2
    rw [hd] at e
    cases e
    obtain ⟨m1, m2⟩ := conAt_mem hc
    refine go c' v.args m1 hl2 (narrow_down hMr (hU d c' m1) h3r h m2.symm hl2 h2) (fun n a ha => ?_)
    rw [m2]
    exact hargs n a ha
theorem missing_complete (hU : Uniq D) {f : Nat} (hM : Mat D rows cols) {v : List Ty} (hl : v.length = cols) (h2 : ∀ r ∈ rows, fitA r v = -1) (h3 : OkV D rows v) (hf : wtR rows + cols < f) : (missingE D f rows cols).2 = true := by
 rw [missing_useful]
 have hlen : (anys cols).length = cols := anys_len cols
 have hcol : ∀ k, sub (col (anys cols :: rows) k) (col rows k) := fun k x hx hxf => by
  obtain ⟨r, g1, g2⟩ := col_mem.1 hx
  rcases List.mem_cons.1 g1 with rfl | g1
  ·rw [anys_get g2] at hxf
   cases hxf
  ·exact col_mem.2 ⟨r, g1, g2⟩
 refine useful_complete hU f rows (anys cols) v ?_ (by rw [hl, hlen]) (fitA_anys _ _) h2 (fun k x hx => (h3 k x hx).mono (hcol k)) ?_
 ·rw [hlen]
  refine ⟨fun r hr => ?_, fun r hr p hp => ?_, fun k => (hM.agr k).mono (hcol k)⟩
  ·rcases List.mem_cons.1 hr with rfl | hr
   ·exact hlen
   ·exact hM.len r hr
  ·rcases List.mem_cons.1 hr with rfl | hr
   ·rw [List.eq_of_mem_replicate hp]
    exact Wf.any D
   ·exact hM.wf r hr p hp
 ·rw [wtA_anys, hlen]
  exact hf
end Go.Pt

/- Plain: the reference's cases of partly known values, against what is missing and what is useful. No program in sight. No condition. -/
namespace Go.Pt
open Go.Eng
def alive (rows : List (List Ty)) (vs : List Ty) : List (List Ty) := rows.filter fun r => decide (0 ≤ fitA r vs)
def addW (ws : List Int) (n : Int) : List Int := if n ∈ ws then ws else ws ++ [n]
def wordsOf (l : List Ty) : List Int := l.foldl (fun ws q => if q.kind = 2 then addW ws q.var else ws) []
def mkI (n : Int) : Ty := .mk 2 ⟨#[]⟩ n []
def mkC (c : Co) : Ty := .mk 3 c.name 0 (anys c.many)
def unkI (ws : List Int) : List Ty := ws.map mkI ++ if ws = [] then [] else [mkI (least ws : Int)]
def unk (D : List Da) (l : List Ty) : List Ty := match l.find? fun q => decide (q.kind = 3) with
 | some p => (consFor D [p]).map mkC
 | none => unkI (wordsOf l)
def kids (l : List Ty) : List (List Ty) := (l.filter fun q => decide (q.kind = 3)).map (·.args)
mutual
def splitOne (D : List Da) : Ty → List Ty → List Ty
 | .mk k nm n «as», l => if k = 3 then (match splitL D «as» 0 (alive (kids l) «as») with
   | none => []
   | some (j, ps) => ps.map fun x => .mk 3 nm 0 («as».set j x))
  else if k = 2 then [] else unk D l
def splitL (D : List Da) : List Ty → Nat → List (List Ty) → Option (Nat × List Ty)
 | [], _, _ => none
 | v :: vs, k, al => if (splitOne D v (col al k)).isEmpty then splitL D vs (k + 1) al else some (k, splitOne D v (col al k))
end
def Split (D : List Da) (rows : List (List Ty)) (vs : List Ty) : List (List Ty) := match splitL D vs 0 (alive rows vs) with
 | none => []
 | some (j, ps) => ps.map fun x => vs.set j x
theorem splitOne_con (D : List Da) {v : Ty} (h : v.kind = 3) (l : List Ty) : splitOne D v l = (Split D (kids l) v.args).map fun a => .mk 3 v.name 0 a := by
 cases v with
 | mk k nm n «as» =>
  have h : k = 3 := h
  rw [splitOne, if_pos h]
  unfold Split
  simp only [Ty.args, Ty.name]
  cases splitL D «as» 0 (alive (kids l) «as») with
  | none => rfl
  | some z => simp [List.map_map, Function.comp_def]
theorem splitOne_int (D : List Da) {v : Ty} (h : v.kind = 2) (l : List Ty) : splitOne D v l = [] := by
 cases v with
 | mk k nm n «as» =>
  have h : k = 2 := h
  rw [splitOne, if_neg (by omega), if_pos h]
theorem splitOne_unk (D : List Da) {v : Ty} (h : free v = true) (l : List Ty) : splitOne D v l = unk D l := by
 cases v with
 | mk k nm n «as» =>
  have h3 : ¬ k = 3 := fun e => by rw [free_no (p := .mk k nm n «as») (.inr e)] at h; cases h
  have h2 : ¬ k = 2 := fun e => by rw [free_no (p := .mk k nm n «as») (.inl e)] at h; cases h
  rw [splitOne, if_neg h3, if_neg h2]
theorem splitL_some (D : List Da) : ∀ (vs : List Ty) (k : Nat) (al : List (List Ty)) (j : Nat) (ps : List Ty), splitL D vs k al = some (j, ps) → ∃ i x, j = k + i ∧ vs[i]? = some x ∧ ps = splitOne D x (col al j) ∧ ps ≠ []
 | [], k, al, j, ps, h => by rw [splitL] at h; cases h
 | v :: vs, k, al, j, ps, h => by
  rw [splitL] at h
  by_cases he : (splitOne D v (col al k)).isEmpty = true
  ·rw [if_pos he] at h
   obtain ⟨i, x, h1, h2, h3, h4⟩ := splitL_some D vs (k + 1) al j ps h
   exact ⟨i + 1, x, by omega, by simpa using h2, h3, h4⟩
  ·rw [if_neg he] at h
   simp only [Option.some.injEq, Prod.mk.injEq] at h
   obtain ⟨rfl, rfl⟩ := h
   exact ⟨0, v, rfl, rfl, rfl, fun e => he (by rw [e]; rfl)⟩
theorem splitL_none (D : List Da) : ∀ (vs : List Ty) (k : Nat) (al : List (List Ty)), splitL D vs k al = none → ∀ (i : Nat) (x : Ty), vs[i]? = some x → splitOne D x (col al (k + i)) = []
 | [], k, al, _, i, x, hx => by simp at hx
 | v :: vs, k, al, h, i, x, hx => by
  rw [splitL] at h
  by_cases he : (splitOne D v (col al k)).isEmpty = true
  ·rw [if_pos he] at h
   cases i with
   | zero =>
    simp only [List.getElem?_cons_zero, Option.some.injEq] at hx
    subst hx
    exact List.isEmpty_iff.1 he
   | succ i =>
    have := splitL_none D vs (k + 1) al h i x (by simpa using hx)
    rwa [show k + 1 + i = k + (i + 1) by omega] at this
  ·rw [if_neg he] at h; cases h
/-! fits of lists, place by place -/
theorem fitA_one : ∀ {l vs : List Ty}, (∀ (n : Nat) (p x : Ty), l[n]? = some p → vs[n]? = some x → fit p x = 1) → fitA l vs = 1
 | [], _, _ => by simp [fitA]
 | _ :: _, [], _ => by simp [fitA]
 | p :: l, v :: vs, h => by
  rw [fitA, h 0 p v rfl rfl, fitA_one (fun n p x h1 h2 => h (n + 1) p x (by simpa using h1) (by simpa using h2))]
  rfl
theorem fitA_all : ∀ {l vs : List Ty} {z : Int}, z ≤ fitA l vs → ∀ (n : Nat) (p x : Ty), l[n]? = some p → vs[n]? = some x → z ≤ fit p x
 | [], _, _, _, n, p, x, h, _ => by simp at h
 | _ :: _, [], _, _, n, p, x, _, h => by simp at h
 | p :: l, v :: vs, z, h, n, q, x, h1, h2 => by
  rw [fitA] at h
  cases n with
  | zero =>
   simp only [List.getElem?_cons_zero, Option.some.injEq] at h1 h2
   subst h1
   subst h2
   omega
  | succ n => exact fitA_all (l := l) (vs := vs) (z := z) (by omega) n q x (by simpa using h1) (by simpa using h2)
theorem fitA_at : ∀ {l vs : List Ty}, fitA l vs < 1 → ∃ (n : Nat) (p x : Ty), l[n]? = some p ∧ vs[n]? = some x ∧ fit p x = fitA l vs
 | [], _, h => by simp [fitA] at h
 | _ :: _, [], h => by simp [fitA] at h
 | p :: l, v :: vs, h => by
  rw [fitA] at h ⊢
  by_cases hp : fit p v ≤ fitA l vs
  ·exact ⟨0, p, v, rfl, rfl, by omega⟩
  ·obtain ⟨n, q, x, h1, h2, h3⟩ := fitA_at (l := l) (vs := vs) (by omega)
   exact ⟨n + 1, q, x, by simpa using h1, by simpa using h2, by omega⟩
def Ref (x y : Ty) : Prop := ∀ p, (fit p x = -1 → fit p y = -1) ∧ (fit p x = 1 → fit p y = 1)
theorem Ref.refl (x : Ty) : Ref x x := fun p => ⟨id, id⟩
theorem Ref.of_free {x : Ty} (h : free x = true) (y : Ty) : Ref x y := fun p => by
 by_cases hp : free p = true
 ·rw [fit_free hp, fit_free hp]
  exact ⟨id, id⟩
 ·rw [fit_unknown (by simpa using hp) h]
  exact ⟨fun e => by omega, fun e => by omega⟩
def RefL (a b : List Ty) : Prop := b.length = a.length ∧ ∀ (n : Nat) (x y : Ty), a[n]? = some x → b[n]? = some y → Ref x y
theorem RefL.fits {a b : List Ty} (h : RefL a b) (l : List Ty) (hl : l.length = a.length) : (fitA l a = -1 → fitA l b = -1) ∧ (fitA l a = 1 → fitA l b = 1) := by
 constructor
 ·intro e
  obtain ⟨n, p, x, h1, h2, h3⟩ := fitA_at (l := l) (vs := a) (by omega)
  have hn := (List.getElem?_eq_some_iff.1 h2).1
  have hnb : n < b.length := by rw [h.1]; exact hn
  have hy : b[n]? = some b[n] := List.getElem?_eq_getElem hnb
  have e1 := (h.2 n x _ h2 hy p).1 (by omega)
  have hr := fitA_range l b
  by_cases hc : 0 ≤ fitA l b
  ·have := fitA_all hc n p _ h1 hy
   omega
  ·omega
 ·intro e
  refine fitA_one (fun n p y h1 h2 => ?_)
  have hn : n < a.length := by rw [← h.1]; exact (List.getElem?_eq_some_iff.1 h2).1
  have hx : a[n]? = some a[n] := List.getElem?_eq_getElem hn
  have e1 := fitA_all (z := 1) (by omega) n p _ h1 hx
  have e2 := fit_range p a[n]
  exact (h.2 n _ y hx h2 p).2 (by omega)
theorem Ref.con {x y : Ty} (hx : x.kind = 3) (hy : y.kind = 3) (hn : y.name = x.name) (h : RefL x.args y.args) : Ref x y := fun p => by
 have fx := free_no (p := x) (.inr hx)
 have fy := free_no (p := y) (.inr hy)
 by_cases hp : free p = true
 ·rw [fit_free hp, fit_free hp]
  exact ⟨id, id⟩
 have hp : free p = false := by simpa using hp
 rw [fit_eq p x, fit_eq p y, hp, fx, fy, hx, hy, hn, h.1]
 simp only [Bool.false_eq_true, if_false]
 by_cases hc : p.kind ≠ 3 ∨ (p.kind = 2 ∧ p.var ≠ x.var) ∨ (p.kind = 3 ∧ (p.name ≠ x.name ∨ p.args.length ≠ x.args.length))
 ·have hc2 : p.kind ≠ 3 ∨ (p.kind = 2 ∧ p.var ≠ y.var) ∨ (p.kind = 3 ∧ (p.name ≠ x.name ∨ p.args.length ≠ x.args.length)) := by
   rcases hc with h | h | h
   ·exact .inl h
   ·exact .inl (by omega)
   ·exact .inr (.inr h)
  rw [if_pos hc, if_pos hc2]
  exact ⟨id, id⟩
 ·have h3 : p.kind = 3 := Decidable.byContradiction fun e => hc (.inl e)
  have hc2 : ¬ (p.kind ≠ 3 ∨ (p.kind = 2 ∧ p.var ≠ y.var) ∨ (p.kind = 3 ∧ (p.name ≠ x.name ∨ p.args.length ≠ x.args.length))) := by
   intro h
   rcases h with h | h | h
   ·exact h h3
   ·omega
   ·exact hc (.inr (.inr h))
  have hl : p.args.length = x.args.length := Decidable.byContradiction fun e => hc (.inr (.inr ⟨h3, .inr e⟩))
  rw [if_neg hc, if_neg hc2, if_neg (by simpa using h3), if_neg (by simpa using h3)]
  exact h.fits p.args hl
inductive Rl : List Ty → Ty → Ty → Prop
 | any {l : List Ty} {v u : Ty} (h : free v = true) : Rl l v u
 | int {l : List Ty} {v u : Ty} (hv : v.kind = 2) (hu : u.kind = 2) (h : ∀ p ∈ l, p.kind = 2 → (p.var = v.var ↔ p.var = u.var)) : Rl l v u
 | con {l : List Ty} {v u : Ty} (hv : v.kind = 3) (hu : u.kind = 3) (hn : v.name = u.name) (hl : v.args.length = u.args.length) (h : ∀ (n : Nat) (a b : Ty), v.args[n]? = some a → u.args[n]? = some b → Rl (under l v.name n) a b) : Rl l v u
theorem Rl.mono {l' : List Ty} {v u : Ty} (h : Rl l' v u) : ∀ {l : List Ty}, sub l l' → Rl l v u := by
 induction h with
 | any h => exact fun _ => .any h
 | int hv hu h => exact fun hs => .int hv hu (fun p hp hk => h p (hs p hp (free_no (.inl hk))) hk)
 | con hv hu hn hl _ ih => exact fun hs => .con hv hu hn hl (fun n a b ha hb => ih n a b ha hb (hs.under _ _))
theorem Rl.fits {D : List Da} {l : List Ty} {v u : Ty} (h : Rl l v u) : ∀ {p : Ty}, p ∈ l → Wf D p → (fit p v = 1 → 0 ≤ fit p u) ∧ (fit p v = -1 → fit p u = -1) := by
 induction h with
 | any h =>
  intro p hp hw
  by_cases hf : free p = true
  ·rw [fit_free hf, fit_free hf]
   exact ⟨fun _ => by omega, id⟩
  ·rw [fit_unknown (by simpa using hf) h]
   exact ⟨fun e => by omega, fun e => by omega⟩
 | int hv hu h =>
  intro p hp hw
  by_cases hf : free p = true
  ·rw [fit_free hf, fit_free hf]
   exact ⟨fun _ => by omega, id⟩
  have hf : free p = false := by simpa using hf
  rcases hw.kinds hf with hk | hk
  ·rw [fit_int hk hv, fit_int hk hu]
   have e := h p hp hk
   constructor
   ·intro h1
    split at h1
    ·rename_i e1
     rw [if_pos (e.1 e1)]
     omega
    ·omega
   ·intro h1
    split at h1
    ·omega
    ·rename_i e1
     rw [if_neg (fun e2 => e1 (e.2 e2))]
  ·rw [fit_kind hf (free_no (.inl hv)) (by omega), fit_kind hf (free_no (.inl hu)) (by omega)]
   exact ⟨fun _ => by omega, id⟩
 | con hv hu hn hl h ih =>
  rename_i l v u
  intro p hp hw
  by_cases hf : free p = true
  ·rw [fit_free hf, fit_free hf]
   exact ⟨fun _ => by omega, id⟩
  have hf : free p = false := by simpa using hf
  rcases hw.kinds hf with hk | hk
  ·rw [fit_kind hf (free_no (.inr hv)) (by omega), fit_kind hf (free_no (.inr hu)) (by omega)]
   exact ⟨fun _ => by omega, id⟩
  ·by_cases hnm : p.name = v.name
   ·by_cases hpl : p.args.length = v.args.length
    ·rw [fit_con hk hv hnm hpl, fit_con hk hu (hnm.trans hn) (hpl.trans hl)]
     obtain ⟨_, _, _, _, hwa⟩ := hw.cons hk
     have hin : ∀ (n : Nat) (a : Ty), p.args[n]? = some a → a ∈ under l v.name n ∧ Wf D a := fun n a ha => ⟨under_mem.2 ⟨p, hp, hf, hnm, ha⟩, hwa a (List.mem_of_getElem? ha)⟩
     constructor
     ·intro e
      have hr := fitA_range p.args u.args
      by_cases hc : fitA p.args u.args = -1
      ·obtain ⟨n, a, b, h1, h2, h3⟩ := fitA_at (l := p.args) (vs := u.args) (by omega)
       have hn2 := (List.getElem?_eq_some_iff.1 h2).1
       have hx : v.args[n]? = some v.args[n] := List.getElem?_eq_getElem (by omega)
       obtain ⟨i1, i2⟩ := hin n a h1
       have e1 := fitA_all (z := 1) (by omega) n a _ h1 hx
       have e2 := fit_range a v.args[n]
       have := (ih n _ b hx h2 i1 i2).1 (by omega)
       omega
      ·omega
     ·intro e
      obtain ⟨n, a, b, h1, h2, h3⟩ := fitA_at (l := p.args) (vs := v.args) (by omega)
      have hn2 := (List.getElem?_eq_some_iff.1 h2).1
      have hx : u.args[n]? = some u.args[n] := List.getElem?_eq_getElem (by omega)
      obtain ⟨i1, i2⟩ := hin n a h1
      have e1 := (ih n b _ h2 hx i1 i2).2 (by omega)
      have hr := fitA_range p.args u.args
      by_cases hc : 0 ≤ fitA p.args u.args
      ·have := fitA_all hc n a _ h1 hx
       omega
      ·omega
    ·have e1 : fit p v = -1 := by rw [fit_eq, hf, free_no (.inr hv)]; simp [hk, hpl]
     have e2 : fit p u = -1 := by rw [fit_eq, hf, free_no (.inr hu)]; simp [hk, show ¬ p.args.length = u.args.length by omega]
     rw [e1, e2]
     exact ⟨fun _ => by omega, id⟩
   ·rw [fit_name hf hv hnm (.inr hk), fit_name hf hu (fun e => hnm (e.trans hn.symm)) (.inr hk)]
    exact ⟨fun _ => by omega, id⟩
/-! words -/
theorem words_mem : ∀ (l : List Ty) (ws : List Int) (n : Int), n ∈ l.foldl (fun ws q => if q.kind = 2 then addW ws q.var else ws) ws ↔ n ∈ ws ∨ ∃ p ∈ l, p.kind = 2 ∧ p.var = n
 | [], ws, n => by simp
 | q :: l, ws, n => by
  rw [List.foldl_cons, words_mem l]
  by_cases hq : q.kind = 2
  ·rw [if_pos hq]
   have : n ∈ addW ws q.var ↔ n ∈ ws ∨ q.var = n := by
    unfold addW
    by_cases hm : q.var ∈ ws
    ·rw [if_pos hm]
     exact ⟨.inl, fun h => h.elim id (fun e => e ▸ hm)⟩
    ·rw [if_neg hm]
     simp [eq_comm]
   rw [this]
   constructor
   ·rintro ((h | h) | ⟨p, h1, h2⟩)
    ·exact .inl h
    ·exact .inr ⟨q, .head _, hq, h⟩
    ·exact .inr ⟨p, .tail _ h1, h2⟩
   ·rintro (h | ⟨p, h1, h2, h3⟩)
    ·exact .inl (.inl h)
    ·rcases List.mem_cons.1 h1 with rfl | h1
     ·exact .inl (.inr h3)
     ·exact .inr ⟨p, h1, h2, h3⟩
  ·rw [if_neg hq]
   constructor
   ·rintro (h | ⟨p, h1, h2⟩)
    ·exact .inl h
    ·exact .inr ⟨p, .tail _ h1, h2⟩
   ·rintro (h | ⟨p, h1, h2, h3⟩)
    ·exact .inl h
    ·rcases List.mem_cons.1 h1 with rfl | h1
     ·exact absurd h2 hq
     ·exact .inr ⟨p, h1, h2, h3⟩
theorem wordsOf_mem {l : List Ty} {n : Int} : n ∈ wordsOf l ↔ ∃ p ∈ l, p.kind = 2 ∧ p.var = n := by
 unfold wordsOf
 rw [words_mem]
 simp
theorem kids_mem {l : List Ty} {a : List Ty} : a ∈ kids l ↔ ∃ p ∈ l, p.kind = 3 ∧ p.args = a := by
 unfold kids
 rw [List.mem_map]
 constructor
 ·rintro ⟨p, h1, h2⟩
  rw [List.mem_filter] at h1
  exact ⟨p, h1.1, of_decide_eq_true h1.2, h2⟩
 ·rintro ⟨p, h1, h2, h3⟩
  exact ⟨p, List.mem_filter.2 ⟨h1, decide_eq_true h2⟩, h3⟩
theorem alive_mem {rows : List (List Ty)} {vs r : List Ty} : r ∈ alive rows vs ↔ r ∈ rows ∧ 0 ≤ fitA r vs := by
 unfold alive
 rw [List.mem_filter, decide_eq_true_eq]
theorem unk_cases {D : List Da} (hU : Uniq D) {l : List Ty} (hw : ∀ p ∈ l, Wf D p) {x : Ty} (hx : x ∈ unk D l) : (∃ p d c, p ∈ l ∧ p.kind = 3 ∧ dOf D p.name = some d ∧ c ∈ consOf D d ∧ conAt D c.name = some (d, c) ∧ x = mkC c ∧ ∀ c' ∈ consOf D d, mkC c' ∈ unk D l) ∨ ((∀ p ∈ l, p.kind ≠ 3) ∧ ∃ p ∈ l, p.kind = 2 ∧ ∃ n, x = mkI n) := by
 unfold unk at hx ⊢
 cases hf : l.find? fun q => decide (q.kind = 3) with
 | some p =>
  rw [hf] at hx
  simp only [List.mem_map] at hx ⊢
  have h1 := List.mem_of_find?_eq_some hf
  have h2 := List.find?_some hf
  have h2 : p.kind = 3 := by simpa using h2
  obtain ⟨d, c0, e1, e2, _⟩ := (hw p h1).cons h2
  have hcf : consFor D [p] = consOf D d := by
   simp only [consFor]
   rw [e1]
  rw [hcf] at hx ⊢
  obtain ⟨c, hc, rfl⟩ := hx
  exact .inl ⟨p, d, c, h1, h2, dOf_of e1, hc, hU d c hc, rfl, fun c' hc' => ⟨c', hc', rfl⟩⟩
 | none =>
  rw [hf] at hx
  rw [List.find?_eq_none] at hf
  refine .inr ⟨fun p hp => by simpa using hf p hp, ?_⟩
  have hne : wordsOf l ≠ [] := fun e => by simp [unkI, e] at hx
  obtain ⟨n, hn⟩ := List.exists_mem_of_ne_nil _ hne
  obtain ⟨p, hp, hk, _⟩ := wordsOf_mem.1 hn
  refine ⟨p, hp, hk, ?_⟩
  unfold unkI at hx
  rw [if_neg hne] at hx
  rcases List.mem_append.1 hx with hx | hx
  ·obtain ⟨m, _, rfl⟩ := List.mem_map.1 hx
   exact ⟨m, rfl⟩
  ·rw [List.mem_singleton] at hx
   exact ⟨_, hx⟩
theorem unk_ne {D : List Da} {l : List Ty} (hw : ∀ p ∈ l, Wf D p) {p : Ty} (hp : p ∈ l) (hf : free p = false) : unk D l ≠ [] := by
 unfold unk
 cases hc : l.find? fun q => decide (q.kind = 3) with
 | some q =>
  simp only
  have h1 := List.mem_of_find?_eq_some hc
  have h2 := List.find?_some hc
  have h2 : q.kind = 3 := by simpa using h2
  obtain ⟨d, c0, e1, e2, _⟩ := (hw q h1).cons h2
  intro e
  rw [List.map_eq_nil_iff] at e
  simp only [consFor] at e
  rw [e1] at e
  have := (conAt_mem e1).1
  simp only at e
  rw [e] at this
  cases this
 | none =>
  simp only
  rw [List.find?_eq_none] at hc
  have h3 : ¬ p.kind = 3 := by simpa using hc p hp
  have h2 : p.kind = 2 := ((hw p hp).kinds hf).resolve_right h3
  intro e
  unfold unkI at e
  rw [List.append_eq_nil_iff, List.map_eq_nil_iff] at e
  have : p.var ∈ wordsOf l := wordsOf_mem.2 ⟨p, hp, h2, rfl⟩
  rw [e.1] at this
  cases this
theorem Agr.pair {D : List Da} {l : List Ty} (h : Agr D l) {p q : Ty} (hp : p ∈ l) (hq : q ∈ l) (h1 : free p = false) (h2 : free q = false) : p.kind = q.kind ∧ (p.kind = 3 → dOf D p.name = dOf D q.name) := by
 cases h with
 | mk hk _ => exact hk p hp q hq h1 h2
theorem unk_ok {D : List Da} (hU : Uniq D) {l la : List Ty} (hl : ∀ p ∈ l, p ∈ la) (hw : ∀ p ∈ la, Wf D p) (hA : Agr D la) {x : Ty} (hx : x ∈ unk D l) : Okv D la x := by
 rcases unk_cases hU (fun p hp => hw p (hl p hp)) hx with ⟨p, d, c, h1, h2, h3, h4, h5, rfl, _⟩ | ⟨_, p, hp, hk, n, rfl⟩
 ·refine .con rfl h5 (anys_len _) (fun q hq hqf => ?_) (fun n a ha => .fr (by rw [anys_get ha]; rfl))
  have e := hA.pair hq (hl p h1) hqf (free_no (.inr h2))
  have e1 : q.kind = 3 := by rw [e.1, h2]
  exact ⟨e1, by rw [e.2 e1, h3]⟩
 ·exact .int rfl (fun q hq hqf => by rw [(hA.pair hq (hl p hp) hqf (free_no (.inl hk))).1, hk])
structure OneP (D : List Da) (v : Ty) : Prop where
 ok : ∀ l la : List Ty, (∀ p ∈ l, p ∈ la) → (∀ p ∈ la, Wf D p) → Agr D la → (∀ p ∈ l, 0 ≤ fit p v) → Okv D la v → ∀ x ∈ splitOne D v l, Okv D la x ∧ Ref v x
 go : ∀ (l : List Ty) (u : Ty), (∀ p ∈ l, Wf D p) → Agr D l → (∀ p ∈ l, 0 ≤ fit p v) → Rl l v u → Okv D l u → splitOne D v l ≠ [] → ∃ x ∈ splitOne D v l, ∃ u', Rl l x u' ∧ Okv D l u' ∧ Ref u u' ∧ Ref v x
 ne : ∀ l : List Ty, (∀ p ∈ l, Wf D p) → (∀ p ∈ l, 0 ≤ fit p v) → (∃ p ∈ l, fit p v = 0) → splitOne D v l ≠ []
theorem set_get {vs : List Ty} {j n : Nat} {x y : Ty} (h : (vs.set j x)[n]? = some y) : (n = j ∧ y = x) ∨ (n ≠ j ∧ vs[n]? = some y) := by
 rw [List.getElem?_set] at h
 by_cases e : j = n
 ·rw [if_pos e] at h
  by_cases hl : j < vs.length
  ·rw [if_pos hl] at h
   exact .inl ⟨e.symm, (Option.some.inj h).symm⟩
  ·rw [if_neg hl] at h; cases h
 ·rw [if_neg e] at h
  exact .inr ⟨fun e' => e e'.symm, h⟩
theorem alive_fit {rows : List (List Ty)} {vs : List Ty} {k : Nat} {p x : Ty} (hp : p ∈ col (alive rows vs) k) (hx : vs[k]? = some x) : 0 ≤ fit p x := by
 obtain ⟨r, h1, h2⟩ := col_mem.1 hp
 exact fitA_all (alive_mem.1 h1).2 k p x h2 hx
theorem Split_mem {D : List Da} {rows : List (List Ty)} {vs w : List Ty} (h : w ∈ Split D rows vs) : ∃ j x y, vs[j]? = some x ∧ y ∈ splitOne D x (col (alive rows vs) j) ∧ w = vs.set j y := by
 unfold Split at h
 cases hs : splitL D vs 0 (alive rows vs) with
 | none => rw [hs] at h; cases h
 | some z =>
  obtain ⟨j, ps⟩ := z
  rw [hs] at h
  obtain ⟨y, hy, rfl⟩ := List.mem_map.1 h
  obtain ⟨i, x, h1, h2, h3, _⟩ := splitL_some D vs 0 _ j ps hs
  obtain rfl : j = i := by omega
  exact ⟨j, x, y, h2, by rw [← h3]; exact hy, rfl⟩
section
variable {D : List Da} {rows : List (List Ty)} {vs : List Ty}
theorem splitV_ok (hO : ∀ x ∈ vs, OneP D x) {L : Nat → List Ty} (hL : ∀ k, ∀ p ∈ col (alive rows vs) k, p ∈ L k) (hw : ∀ k, ∀ p ∈ L k, Wf D p) (hA : ∀ k, Agr D (L k)) (hok : ∀ (k : Nat) (x : Ty), vs[k]? = some x → Okv D (L k) x) {w : List Ty} (h : w ∈ Split D rows vs) : RefL vs w ∧ ∀ (k : Nat) (x : Ty), w[k]? = some x → Okv D (L k) x := by
 obtain ⟨j, x, y, hx, hy, rfl⟩ := Split_mem h
 obtain ⟨g1, g2⟩ := (hO x (List.mem_of_getElem? hx)).ok _ (L j) (hL j) (hw j) (hA j) (fun p hp => alive_fit hp hx) (hok j x hx) y hy
 refine ⟨⟨List.length_set, fun n a b ha hb => ?_⟩, fun k z hz => ?_⟩
 ·rcases set_get hb with ⟨rfl, rfl⟩ | ⟨_, hb⟩
  ·rw [hx] at ha
   cases ha
   exact g2
  ·rw [ha] at hb
   cases hb
   exact Ref.refl _
 ·rcases set_get hz with ⟨rfl, rfl⟩ | ⟨_, hz⟩
  ·exact g1
  ·exact hok k z hz
theorem splitV_go (hO : ∀ x ∈ vs, OneP D x) (hw : ∀ k, ∀ p ∈ col (alive rows vs) k, Wf D p) (hA : ∀ k, Agr D (col (alive rows vs) k)) {u : List Ty} (hl : vs.length = u.length) (hR : ∀ (k : Nat) (a b : Ty), vs[k]? = some a → u[k]? = some b → Rl (col (alive rows vs) k) a b) (hok : ∀ (k : Nat) (b : Ty), u[k]? = some b → Okv D (col (alive rows vs) k) b) (hne : Split D rows vs ≠ []) :
  ∃ w ∈ Split D rows vs, ∃ u' : List Ty, w.length = u'.length ∧ (∀ (k : Nat) (a b : Ty), w[k]? = some a → u'[k]? = some b → Rl (col (alive rows vs) k) a b) ∧ (∀ (k : Nat) (b : Ty), u'[k]? = some b → Okv D (col (alive rows vs) k) b) ∧ RefL u u' ∧ RefL vs w := by
 cases hs : splitL D vs 0 (alive rows vs) with
 | none => exact absurd (by unfold Split; rw [hs]) hne
 | some z =>
  obtain ⟨j, ps⟩ := z
  obtain ⟨i, x, h1, h2, h3, h4⟩ := splitL_some D vs 0 _ j ps hs
  obtain rfl : j = i := by omega
  have hj := (List.getElem?_eq_some_iff.1 h2).1
  have hu : u[j]? = some u[j] := List.getElem?_eq_getElem (by omega)
  rw [h3] at h4
  obtain ⟨y, hy, u', g1, g2, g3, g4⟩ := (hO x (List.mem_of_getElem? h2)).go _ u[j] (hw j) (hA j) (fun p hp => alive_fit hp h2) (hR j x _ h2 hu) (hok j _ hu) h4
  refine ⟨vs.set j y, ?_, u.set j u', by rw [List.length_set, List.length_set, hl], fun k a b ha hb => ?_, fun k b hb => ?_, ⟨List.length_set, fun n a b ha hb => ?_⟩, ⟨List.length_set, fun n a b ha hb => ?_⟩⟩
  ·unfold Split
   rw [hs]
   exact List.mem_map.2 ⟨y, by rw [h3]; exact hy, rfl⟩
  ·rcases set_get ha with ⟨rfl, rfl⟩ | ⟨hn, ha⟩
   ·rcases set_get hb with ⟨_, rfl⟩ | ⟨hn, _⟩
    ·exact g1
    ·exact absurd rfl hn
   ·rcases set_get hb with ⟨e, _⟩ | ⟨_, hb⟩
    ·exact absurd e hn
    ·exact hR k a b ha hb
  ·rcases set_get hb with ⟨rfl, rfl⟩ | ⟨_, hb⟩
   ·exact g2
   ·exact hok k b hb
  ·rcases set_get hb with ⟨rfl, rfl⟩ | ⟨_, hb⟩
   ·rw [hu] at ha
    cases ha
    exact g3
   ·rw [ha] at hb
    cases hb
    exact Ref.refl _
  ·rcases set_get hb with ⟨rfl, rfl⟩ | ⟨_, hb⟩
   ·rw [h2] at ha
    cases ha
    exact g4
   ·rw [ha] at hb
    cases hb
    exact Ref.refl _
theorem splitV_ne (hO : ∀ x ∈ vs, OneP D x) (hw : ∀ k, ∀ p ∈ col (alive rows vs) k, Wf D p) (h : ∃ r ∈ rows, fitA r vs = 0) : Split D rows vs ≠ [] := by
 obtain ⟨r, hr, h0⟩ := h
 obtain ⟨n, p, x, h1, h2, h3⟩ := fitA_at (l := r) (vs := vs) (by omega)
 have hra : r ∈ alive rows vs := alive_mem.2 ⟨hr, by omega⟩
 have hne := (hO x (List.mem_of_getElem? h2)).ne (col (alive rows vs) n) (hw n) (fun p hp => alive_fit hp h2) ⟨p, col_mem.2 ⟨r, hra, h1⟩, by omega⟩
 unfold Split
 cases hs : splitL D vs 0 (alive rows vs) with
 | none =>
  have := splitL_none D vs 0 _ hs n x h2
  rw [Nat.zero_add] at this
  exact absurd this hne
 | some z =>
  obtain ⟨j, ps⟩ := z
  obtain ⟨_, _, _, _, _, h4⟩ := splitL_some D vs 0 _ j ps hs
  intro e
  rw [List.map_eq_nil_iff] at e
  exact h4 e
end
theorem under_wf {D : List Da} {l : List Ty} (hw : ∀ p ∈ l, Wf D p) (hk : ∀ p ∈ l, free p = false → p.kind = 3) (nm : ByteArray) (k : Nat) : ∀ q ∈ under l nm k, Wf D q := fun q hq => by
 obtain ⟨p, g1, g2, g3, g4⟩ := under_mem.1 hq
 obtain ⟨_, _, _, _, h⟩ := (hw p g1).cons (hk p g1 g2)
 exact h q (List.mem_of_getElem? g4)
theorem one (D : List Da) (hU : Uniq D) : ∀ (m : Nat) (v : Ty), v.sz ≤ m → OneP D v
 | 0, .mk k nm n «as», h => by simp [Ty.sz] at h
 | m + 1, v, hm => by
  by_cases h3 : v.kind = 3
  ·have hvf := free_no (p := v) (.inr h3)
   have hO : ∀ x ∈ v.args, OneP D x := fun x hx => by
    obtain ⟨i, hi⟩ := List.mem_iff_getElem?.1 hx
    refine one D hU m x ?_
    have := Ty.sz_get hi
    cases v with
    | mk k nm n «as» =>
     simp only [Ty.sz] at hm
     simp only [Ty.args] at this
     omega
   have hcol : ∀ l : List Ty, (∀ p ∈ l, 0 ≤ fit p v) → (∀ k, ∀ q ∈ col (alive (kids l) v.args) k, q ∈ under l v.name k) ∧ ∀ k, ∀ q ∈ under l v.name k, q ∈ col (alive (kids l) v.args) k := fun l hl => by
    constructor
    ·intro k q hq
     obtain ⟨r, g1, g2⟩ := col_mem.1 hq
     obtain ⟨p, g3, g4, rfl⟩ := kids_mem.1 (alive_mem.1 g1).1
     have hpf := free_no (p := p) (.inr g4)
     exact under_mem.2 ⟨p, g3, hpf, ((fit_known hpf hvf (hl p g3)).2.2 g4).1, g2⟩
    ·intro k q hq
     obtain ⟨p, g1, g2, g3, g4⟩ := under_mem.1 hq
     obtain ⟨e1, _, e2⟩ := fit_known g2 hvf (hl p g1)
     have hk : p.kind = 3 := by rw [e1, h3]
     obtain ⟨_, _, e3⟩ := e2 hk
     exact col_mem.2 ⟨p.args, alive_mem.2 ⟨kids_mem.2 ⟨p, g1, hk, rfl⟩, by rw [← e3]; exact hl p g1⟩, g4⟩
   have hk3 : ∀ l : List Ty, (∀ p ∈ l, 0 ≤ fit p v) → ∀ p ∈ l, free p = false → p.kind = 3 := fun l hl p hp hf => by rw [(fit_known hf hvf (hl p hp)).1, h3]
   refine ⟨fun l la hla hw hA hal hok x hx => ?_, fun l u hw hA hal hR hok hne => ?_, fun l hw hal h0 => ?_⟩
   ·rw [splitOne_con D h3] at hx
    obtain ⟨w, hw1, rfl⟩ := List.mem_map.1 hx
    cases hok with
    | fr h => rw [hvf] at h; cases h
    | int h _ => omega
    | con _ hc hl hp ha =>
     obtain ⟨g1, g2⟩ := splitV_ok (L := fun k => under la v.name k) hO (fun k q hq => by
      obtain ⟨p, m1, m2, m3, m4⟩ := under_mem.1 ((hcol l hal).1 k q hq)
      exact under_mem.2 ⟨p, hla p m1, m2, m3, m4⟩) (fun k => under_wf hw (fun p hp1 hf => (hp p hp1 hf).1) _ _) (fun k => hA.under (fun p hp1 hf => (hp p hp1 hf).1) _ _) ha hw1
     exact ⟨.con rfl hc (by rw [← hl]; exact g1.1) hp g2, Ref.con h3 rfl rfl g1⟩
   ·rw [splitOne_con D h3] at hne ⊢
    have hne2 : Split D (kids l) v.args ≠ [] := fun e => hne (by rw [e]; rfl)
    obtain ⟨c1, c2⟩ := hcol l hal
    cases hR with
    | any h => rw [hvf] at h; cases h
    | int h _ _ => omega
    | con _ hu hn hl hR =>
     cases hok with
     | fr h => rw [free_no (.inr hu)] at h; cases h
     | int h _ => omega
     | con _ hc hl2 hp ha =>
      obtain ⟨w, hw1, u', w1, w2, w3, w4, w5⟩ := splitV_go (u := u.args) hO (fun k q hq => under_wf hw (hk3 l hal) _ _ q (c1 k q hq)) (fun k => (hA.under (hk3 l hal) v.name k).mono (sub.of (c1 k))) hl (fun k a b h1 h2 => (hR k a b h1 h2).mono (sub.of (c1 k))) (fun k b hb => (ha k b hb).mono (sub.of (fun q hq => by rw [← hn]; exact c1 k q hq))) hne2
      refine ⟨_, List.mem_map.2 ⟨w, hw1, rfl⟩, .mk 3 u.name 0 u', .con rfl rfl hn w1 (fun k a b h1 h2 => (w2 k a b h1 h2).mono (sub.of (c2 k))), .con rfl hc (by rw [← hl2]; exact w4.1) hp (fun k b hb => (w3 k b hb).mono (sub.of (fun q hq => c2 k q (by rw [hn]; exact hq)))), Ref.con hu rfl rfl w4, Ref.con h3 rfl rfl w5⟩
   ·obtain ⟨p, hp, h0⟩ := h0
    have hpf : free p = false := by
     cases hf : free p with
     | false => rfl
     | true => rw [fit_free hf] at h0; omega
    obtain ⟨e1, _, e2⟩ := fit_known hpf hvf (by omega)
    have hk : p.kind = 3 := by rw [e1, h3]
    obtain ⟨_, _, e3⟩ := e2 hk
    rw [splitOne_con D h3]
    intro e
    rw [List.map_eq_nil_iff] at e
    exact splitV_ne hO (fun k q hq => under_wf hw (hk3 l hal) _ _ q ((hcol l hal).1 k q hq)) ⟨p.args, kids_mem.2 ⟨p, hp, hk, rfl⟩, by omega⟩ e
  by_cases h2 : v.kind = 2
  ·have hvf := free_no (p := v) (.inl h2)
   refine ⟨fun l la _ _ _ _ _ x hx => ?_, fun l u _ _ _ _ _ hne => absurd (splitOne_int D h2 l) hne, fun l hw hal h0 => ?_⟩
   ·rw [splitOne_int D h2] at hx
    cases hx
   ·obtain ⟨p, hp, h0⟩ := h0
    have hpf : free p = false := by
     cases hf : free p with
     | false => rfl
     | true => rw [fit_free hf] at h0; omega
    obtain ⟨e1, _, _⟩ := fit_known hpf hvf (by omega)
    rw [fit_int (by omega) h2] at h0
    split at h0 <;> omega
  ·refine ⟨fun l la hla hw hA hal hok x hx => ?_, fun l u hw hA hal hR hok hne => ?_, fun l hw hal h0 => ?_⟩
   ·cases hok with
    | fr h =>
     rw [splitOne_unk D h] at hx
     exact ⟨unk_ok hU hla hw hA hx, Ref.of_free h x⟩
    | int h _ => exact absurd h h2
    | con h _ _ _ _ => exact absurd h h3
   ·cases hR with
    | int h _ _ => exact absurd h h2
    | con h _ _ _ _ => exact absurd h h3
    | any hv =>
     rw [splitOne_unk D hv] at hne ⊢
     obtain ⟨x0, hx0⟩ := List.exists_mem_of_ne_nil _ hne
     cases hok with
     | fr hu =>
      refine ⟨x0, hx0, x0, ?_, unk_ok hU (fun p hp => hp) hw hA hx0, Ref.of_free hu x0, Ref.of_free hv x0⟩
      rcases unk_cases hU hw hx0 with ⟨_, _, c, _, _, _, _, _, rfl, _⟩ | ⟨_, _, _, _, n, rfl⟩
      ·exact .con rfl rfl rfl rfl (fun n a b ha _ => .any (by rw [anys_get ha]; rfl))
      ·exact .int rfl rfl (fun p _ _ => Iff.rfl)
     | int hu hp =>
      have hno : l.find? (fun q => decide (q.kind = 3)) = none := by
       rw [List.find?_eq_none]
       intro q hq h
       have hq3 : q.kind = 3 := by simpa using h
       have := hp q hq (free_no (.inr hq3))
       omega
      have hun : unk D l = unkI (wordsOf l) := by unfold unk; rw [hno]
      rw [hun] at hne ⊢
      have hwn : wordsOf l ≠ [] := fun e => hne (by unfold unkI; rw [e]; rfl)
      by_cases hm : u.var ∈ wordsOf l
      ·refine ⟨mkI u.var, ?_, u, .int rfl hu (fun p _ _ => Iff.rfl), .int hu hp, Ref.refl u, Ref.of_free hv _⟩
       unfold unkI
       exact List.mem_append_left _ (List.mem_map.2 ⟨u.var, hm, rfl⟩)
      ·refine ⟨mkI (least (wordsOf l) : Int), ?_, u, .int rfl hu (fun p hp1 hk => ?_), .int hu hp, Ref.refl u, Ref.of_free hv _⟩
       ·unfold unkI
        rw [if_neg hwn]
        exact List.mem_append_right _ (.head _)
       ·have hpm : p.var ∈ wordsOf l := wordsOf_mem.2 ⟨p, hp1, hk, rfl⟩
        constructor
        ·intro e
         have e : p.var = (least (wordsOf l) : Int) := e
         exact absurd (e ▸ hpm) (least_no _)
        ·intro e
         exact absurd (e ▸ hpm) hm
     | con hu hc hl hp ha =>
      rename_i d c
      rcases unk_cases hU hw hx0 with ⟨p, d', c', h1, h2', h3', h4, h5, _, h6⟩ | ⟨_, p, hp1, hk, _⟩
      ·have e := (hp p h1 (free_no (.inr h2'))).2
       rw [h3'] at e
       cases e
       obtain ⟨m1, m2⟩ := conAt_mem hc
       exact ⟨mkC c, h6 c m1, u, .con rfl hu m2 (by rw [hl]; exact anys_len _) (fun n a b h1 _ => .any (by rw [anys_get h1]; rfl)), .con hu hc hl hp ha, Ref.refl u, Ref.of_free hv _⟩
      ·have := (hp p hp1 (free_no (.inl hk))).1
       omega
   ·obtain ⟨p, hp, h0⟩ := h0
    have hpf : free p = false := by
     cases hf : free p with
     | false => rfl
     | true => rw [fit_free hf] at h0; omega
    have hv : free v = true := by
     cases hf : free v with
     | true => rfl
     | false =>
      have e := (fit_known hpf hf (by omega)).1
      have := (hw p hp).kinds hpf
      omega
    rw [splitOne_unk D hv]
    exact unk_ne hw hp hpf
end Go.Pt

/- Plain: the reference's Cover finds what is missing, and which rows are useful. No program in sight. No condition. -/
namespace Go.Pt
open Go.Eng
def which : List (List Ty) → List Ty → Nat → Int
 | [], _, _ => -1
 | r :: rs, v, k => if fitA r v = 1 then (k : Int) else if fitA r v = 0 then -2 else which rs v (k + 1)
theorem which_cases : ∀ (rows : List (List Ty)) (v : List Ty) (k : Nat), (∃ (i : Nat) (r : List Ty), which rows v k = ((k + i : Nat) : Int) ∧ rows[i]? = some r ∧ fitA r v = 1 ∧ ∀ (j : Nat) (s : List Ty), j < i → rows[j]? = some s → fitA s v = -1) ∨ (which rows v k = -2 ∧ ∃ r ∈ rows, fitA r v = 0) ∨ (which rows v k = -1 ∧ ∀ r ∈ rows, fitA r v = -1)
 | [], v, k => .inr (.inr ⟨rfl, fun r hr => (by cases hr)⟩)
 | r :: rs, v, k => by
  rw [which]
  have hr := fitA_range r v
  by_cases h1 : fitA r v = 1
  ·rw [if_pos h1]
   exact .inl ⟨0, r, rfl, rfl, h1, fun j s hj => by omega⟩
  rw [if_neg h1]
  by_cases h0 : fitA r v = 0
  ·rw [if_pos h0]
   exact .inr (.inl ⟨rfl, r, .head _, h0⟩)
  rw [if_neg h0]
  have hn : fitA r v = -1 := by omega
  rcases which_cases rs v (k + 1) with ⟨i, s, g1, g2, g3, g4⟩ | ⟨g1, s, g2, g3⟩ | ⟨g1, g2⟩
  ·refine .inl ⟨i + 1, s, by rw [g1]; congr 1; omega, by simpa using g2, g3, fun j t hj ht => ?_⟩
   cases j with
   | zero =>
    simp only [List.getElem?_cons_zero, Option.some.injEq] at ht
    subst ht
    exact hn
   | succ j => exact g4 j t (by omega) (by simpa using ht)
  ·exact .inr (.inl ⟨g1, s, .tail _ g2, g3⟩)
  ·refine .inr (.inr ⟨g1, fun s hs => ?_⟩)
   rcases List.mem_cons.1 hs with rfl | hs
   ·exact hn
   ·exact g2 s hs
def coverE (D : List Da) (rows : List (List Ty)) : Nat → List (List Ty) → List Bool → Bool → Option (List Bool × Bool)
 | _, [], used, nn => some (used, nn)
 | 0, _ :: _, _, _ => none
 | m + 1, v :: ws, used, nn => if 0 ≤ which rows v 0 then coverE D rows m ws (used.set (which rows v 0).toNat true) nn else if which rows v 0 = -1 then coverE D rows m ws used true else coverE D rows m ((Split D rows v).reverse ++ ws) used nn
variable {D : List Da} {rows : List (List Ty)} {cols : Nat}
theorem cover_keep : ∀ (m : Nat) (ws : List (List Ty)) (used : List Bool) (nn : Bool) (r : List Bool × Bool), coverE D rows m ws used nn = some r → r.1.length = used.length ∧ (nn = true → r.2 = true) ∧ ∀ k : Nat, used[k]? = some true → r.1[k]? = some true
 | m, [], used, nn, r, h => by
  have h : some (used, nn) = some r := by rw [← h]; cases m <;> rfl
  cases h
  exact ⟨rfl, id, fun k => id⟩
 | 0, _ :: _, used, nn, r, h => by cases h
 | m + 1, v :: ws, used, nn, r, h => by
  rw [coverE] at h
  split at h
  ·obtain ⟨h1, h2, h3⟩ := cover_keep m _ _ _ r h
   refine ⟨by rw [h1, List.length_set], h2, fun k hk => h3 k ?_⟩
   rw [List.getElem?_set]
   have hl := (List.getElem?_eq_some_iff.1 hk).1
   split
   ·rename_i e
    rw [if_pos (by omega)]
   ·exact hk
  split at h
  ·obtain ⟨h1, h2, h3⟩ := cover_keep m _ _ _ r h
   exact ⟨h1, fun _ => h2 rfl, h3⟩
  ·exact cover_keep m _ _ _ r h
theorem cover_find {I : List Ty → Prop} (hI : ∀ w, I w → which rows w 0 = -2 → ∃ w' ∈ Split D rows w, I w') : ∀ (m : Nat) (ws : List (List Ty)) (used : List Bool) (nn : Bool) (r : List Bool × Bool), coverE D rows m ws used nn = some r → used.length = rows.length → (∃ w ∈ ws, I w) → ∃ w, I w ∧ ((which rows w 0 = -1 ∧ r.2 = true) ∨ (0 ≤ which rows w 0 ∧ r.1[(which rows w 0).toNat]? = some true))
 | m, [], used, nn, r, h, hl, hw => by
  obtain ⟨w, hw, _⟩ := hw
  cases hw
 | 0, _ :: _, used, nn, r, h, hl, hw => by cases h
 | m + 1, v :: ws, used, nn, r, h, hl, hw => by
  rw [coverE] at h
  obtain ⟨w, hw, hIw⟩ := hw
  by_cases h0 : 0 ≤ which rows v 0
  ·rw [if_pos h0] at h
   rcases List.mem_cons.1 hw with rfl | hw
   ·refine ⟨w, hIw, .inr ⟨h0, (cover_keep m _ _ _ r h).2.2 _ ?_⟩⟩
    have hlt : (which rows w 0).toNat < used.length := by
     rcases which_cases rows w 0 with ⟨i, s, g1, g2, _⟩ | ⟨g1, _⟩ | ⟨g1, _⟩
     ·have := (List.getElem?_eq_some_iff.1 g2).1
      omega
     ·omega
     ·omega
    rw [List.getElem?_set, if_pos rfl, if_pos hlt]
   ·exact cover_find hI m _ _ _ r h (by rw [List.length_set]; exact hl) ⟨w, hw, hIw⟩
  rw [if_neg h0] at h
  by_cases h1 : which rows v 0 = -1
  ·rw [if_pos h1] at h
   rcases List.mem_cons.1 hw with rfl | hw
   ·exact ⟨w, hIw, .inl ⟨h1, (cover_keep m _ _ _ r h).2.1 rfl⟩⟩
   ·exact cover_find hI m _ _ _ r h hl ⟨w, hw, hIw⟩
  rw [if_neg h1] at h
  rcases List.mem_cons.1 hw with rfl | hw
  ·have h2 : which rows w 0 = -2 := by
    rcases which_cases rows w 0 with ⟨i, s, g1, _⟩ | ⟨g1, _⟩ | ⟨g1, _⟩
    ·omega
    ·exact g1
    ·omega
   obtain ⟨w', g1, g2⟩ := hI w hIw h2
   exact cover_find hI m _ _ _ r h hl ⟨w', List.mem_append_left _ (List.mem_reverse.2 g1), g2⟩
  ·exact cover_find hI m _ _ _ r h hl ⟨w, List.mem_append_right _ hw, hIw⟩
theorem cover_back {J : List Ty → Prop} (hJ : ∀ w, J w → ∀ w' ∈ Split D rows w, J w') : ∀ (m : Nat) (ws : List (List Ty)) (used : List Bool) (nn : Bool) (r : List Bool × Bool), coverE D rows m ws used nn = some r → (∀ w ∈ ws, J w) → (r.2 = true → nn = true ∨ ∃ w, J w ∧ which rows w 0 = -1) ∧ ∀ k : Nat, r.1[k]? = some true → used[k]? = some true ∨ ∃ w, J w ∧ which rows w 0 = (k : Int)
 | m, [], used, nn, r, h, hw => by
  have h : some (used, nn) = some r := by rw [← h]; cases m <;> rfl
  cases h
  exact ⟨.inl, fun k => .inl⟩
 | 0, _ :: _, used, nn, r, h, hw => by cases h
 | m + 1, v :: ws, used, nn, r, h, hw => by
  rw [coverE] at h
  have hv := hw v (.head _)
  have hws : ∀ w ∈ ws, J w := fun w hm => hw w (.tail _ hm)
  by_cases h0 : 0 ≤ which rows v 0
  ·rw [if_pos h0] at h
   obtain ⟨g1, g2⟩ := cover_back hJ m _ _ _ r h hws
   refine ⟨g1, fun k hk => ?_⟩
   rcases g2 k hk with g | g
   ·rw [List.getElem?_set] at g
    by_cases e : (which rows v 0).toNat = k
    ·exact .inr ⟨v, hv, by omega⟩
    ·rw [if_neg e] at g
     exact .inl g
   ·exact .inr g
  rw [if_neg h0] at h
  by_cases h1 : which rows v 0 = -1
  ·rw [if_pos h1] at h
   obtain ⟨g1, g2⟩ := cover_back hJ m _ _ _ r h hws
   exact ⟨fun _ => .inr ⟨v, hv, h1⟩, g2⟩
  rw [if_neg h1] at h
  exact cover_back hJ m _ _ _ r h (fun w hm => by
   rcases List.mem_append.1 hm with hm | hm
   ·exact hJ v hv w (List.mem_reverse.1 hm)
   ·exact hws w hm)
/-! known cases and a value that they stand for -/
structure Fol (D : List Da) (rows : List (List Ty)) (cols : Nat) (P : List Ty → Prop) (v : List Ty) : Prop where
 len : v.length = cols
 ex : ∃ u : List Ty, u.length = cols ∧ P u ∧ (∀ (k : Nat) (a b : Ty), v[k]? = some a → u[k]? = some b → Rl (col (alive rows v) k) a b) ∧ (∀ (k : Nat) (b : Ty), u[k]? = some b → Okv D (col (alive rows v) k) b) ∧ ∀ r ∈ rows, fitA r v = -1 → fitA r u = -1
theorem alive_sub (v : List Ty) (k : Nat) : ∀ p ∈ col (alive rows v) k, p ∈ col rows k := fun p hp => by
 obtain ⟨r, h1, h2⟩ := col_mem.1 hp
 exact col_mem.2 ⟨r, (alive_mem.1 h1).1, h2⟩
theorem Mat.wf_col (h : Mat D rows cols) (k : Nat) : ∀ p ∈ col rows k, Wf D p := fun p hp => by
 obtain ⟨r, h1, h2⟩ := col_mem.1 hp
 exact h.wf r h1 p (List.mem_of_getElem? h2)
theorem row_fits (h : Mat D rows cols) {v u : List Ty} (hv : v.length = cols) (hu : u.length = cols) {al : List (List Ty)} (hs : ∀ r ∈ al, r ∈ rows) (hR : ∀ (k : Nat) (a b : Ty), v[k]? = some a → u[k]? = some b → Rl (col al k) a b) {r : List Ty} (hr : r ∈ al) : (fitA r v = 1 → 0 ≤ fitA r u) ∧ (fitA r v = -1 → fitA r u = -1) := by
 have hin : ∀ (n : Nat) (p : Ty), r[n]? = some p → p ∈ col al n ∧ Wf D p := fun n p hp => ⟨col_mem.2 ⟨r, hr, hp⟩, h.wf r (hs r hr) p (List.mem_of_getElem? hp)⟩
 constructor
 ·intro e
  have hg := fitA_range r u
  by_cases hc : fitA r u = -1
  ·obtain ⟨n, p, y, h1, h2, h3⟩ := fitA_at (l := r) (vs := u) (by omega)
   have hn := (List.getElem?_eq_some_iff.1 h2).1
   have hnv : n < v.length := by omega
   have hx : v[n]? = some v[n] := List.getElem?_eq_getElem hnv
   obtain ⟨i1, i2⟩ := hin n p h1
   have e1 := fitA_all (z := 1) (by omega) n p _ h1 hx
   have e2 := fit_range p v[n]
   have := ((hR n _ y hx h2).fits i1 i2).1 (by omega)
   omega
  ·omega
 ·intro e
  obtain ⟨n, p, x, h1, h2, h3⟩ := fitA_at (l := r) (vs := v) (by omega)
  have hn := (List.getElem?_eq_some_iff.1 h2).1
  have hnu : n < u.length := by omega
  have hy : u[n]? = some u[n] := List.getElem?_eq_getElem hnu
  obtain ⟨i1, i2⟩ := hin n p h1
  have e1 := ((hR n x _ h2 hy).fits i1 i2).2 (by omega)
  have hg := fitA_range r u
  by_cases hc : 0 ≤ fitA r u
  ·have := fitA_all hc n p _ h1 hy
   omega
  ·omega
theorem Fol.step (hU : Uniq D) (h : Mat D rows cols) {P : List Ty → Prop} (hP : ∀ a b : List Ty, a.length = cols → P a → RefL a b → P b) {v : List Ty} (hF : Fol D rows cols P v) (h2 : which rows v 0 = -2) : ∃ w ∈ Split D rows v, Fol D rows cols P w := by
 obtain ⟨hl, u, hu, hPu, hR, hok, hd⟩ := hF
 have hO : ∀ x ∈ v, OneP D x := fun x _ => one D hU x.sz x (Nat.le_refl _)
 have h0 : ∃ r ∈ rows, fitA r v = 0 := by
  rcases which_cases rows v 0 with ⟨i, s, g1, _⟩ | ⟨_, g⟩ | ⟨g1, _⟩
  ·omega
  ·exact g
  ·omega
 have hw : ∀ k, ∀ p ∈ col (alive rows v) k, Wf D p := fun k p hp => h.wf_col k p (alive_sub v k p hp)
 obtain ⟨w, hw1, u', w1, w2, w3, w4, w5⟩ := splitV_go (u := u) hO hw (fun k => (h.agr k).mono (sub.of (alive_sub v k))) (by omega) hR hok (splitV_ne hO hw h0)
 have hwl : w.length = cols := by rw [w5.1, hl]
 have hul : u'.length = cols := by rw [w4.1, hu]
 have hal : ∀ k, ∀ p ∈ col (alive rows w) k, p ∈ col (alive rows v) k := fun k p hp => by
  obtain ⟨r, g1, g2⟩ := col_mem.1 hp
  obtain ⟨g3, g4⟩ := alive_mem.1 g1
  refine col_mem.2 ⟨r, alive_mem.2 ⟨g3, ?_⟩, g2⟩
  have hg := fitA_range r v
  by_cases hc : fitA r v = -1
  ·have := (w5.fits r (by rw [h.len r g3, hl])).1 hc
   omega
  ·omega
 refine ⟨w, hw1, hwl, u', hul, hP u u' hu hPu w4, fun k a b ha hb => (w2 k a b ha hb).mono (sub.of (hal k)), fun k b hb => (w3 k b hb).mono (sub.of (hal k)), fun r hr e => ?_⟩
 by_cases hc : 0 ≤ fitA r v
 ·exact (row_fits h hwl hul (fun r hr => (alive_mem.1 hr).1) w2 (alive_mem.2 ⟨hr, hc⟩)).2 e
 ·have hg := fitA_range r v
  exact (w4.fits r (by rw [h.len r hr, hu])).1 (hd r hr (by omega))
theorem Fol.start (h : Mat D rows cols) {P : List Ty → Prop} {u : List Ty} (hu : u.length = cols) (hPu : P u) (hok : OkV D rows u) : Fol D rows cols P (anys cols) :=
 ⟨anys_len _, u, hu, hPu, fun k a b ha _ => .any (by rw [anys_get ha]; rfl), fun k b hb => (hok k b hb).mono (sub.of (alive_sub _ k)), fun r hr e => by
  have : 0 ≤ fitA r (anys cols) := by
   have hg := fitA_range r (anys cols)
   by_cases hc : fitA r (anys cols) = -1
   ·obtain ⟨n, p, x, h1, h2, h3⟩ := fitA_at (l := r) (vs := anys cols) (by omega)
    rw [anys_get h2] at h3
    by_cases hp : free p = true
    ·rw [fit_free hp] at h3; omega
    ·rw [fit_unknown (by simpa using hp) rfl] at h3; omega
   ·omega
  omega⟩
def Typ (D : List Da) (rows : List (List Ty)) (cols : Nat) (v : List Ty) : Prop := v.length = cols ∧ OkV D rows v
theorem Typ.step (hU : Uniq D) (h : Mat D rows cols) {v : List Ty} (hT : Typ D rows cols v) : ∀ w ∈ Split D rows v, Typ D rows cols w := fun w hw => by
 obtain ⟨g1, g2⟩ := splitV_ok (L := fun k => col rows k) (fun x _ => one D hU x.sz x (Nat.le_refl _)) (fun k => alive_sub v k) (fun k => h.wf_col k) h.agr hT.2 hw
 exact ⟨by rw [g1.1]; exact hT.1, g2⟩
theorem Typ.start : Typ D rows cols (anys cols) := ⟨anys_len _, fun k x hx => .fr (by rw [anys_get hx]; rfl)⟩
theorem cover_missing (hU : Uniq D) (h : Mat D rows cols) {m : Nat} {used : List Bool} {r : List Bool × Bool} (hul : used.length = rows.length) (hc : coverE D rows m [anys cols] used false = some r) {f : Nat} (hf : wtR rows + cols < f) : r.2 = (missingE D f rows cols).2 ∧ ((missingE D f rows cols).2 = true → (missingE D f rows cols).1.length = cols ∧ ∀ s ∈ rows, fitA s (missingE D f rows cols).1 = -1) := by
 have hs := missing_sound hU f rows cols h
 refine ⟨?_, hs⟩
 rw [Bool.eq_iff_iff]
 constructor
 ·intro h2
  rcases (cover_back (fun w hw => Typ.step hU h hw) m _ used false r hc (fun w hw => by rw [List.mem_singleton] at hw; rw [hw]; exact Typ.start)).1 h2 with e | ⟨w, ⟨w1, w2⟩, w3⟩
  ·cases e
  ·refine missing_complete hU h w1 ?_ w2 hf
   rcases which_cases rows w 0 with ⟨i, s, g1, _⟩ | ⟨g1, _⟩ | ⟨_, g⟩
   ·omega
   ·omega
   ·exact g
 ·intro h2
  obtain ⟨s1, s2⟩ := hs h2
  obtain ⟨v, hv1, hv2, hv3⟩ : ∃ v : List Ty, v.length = cols ∧ (∀ r ∈ rows, fitA r v = -1) ∧ OkV D rows v := by
   rw [missing_useful] at h2
   have hcol : ∀ k, sub (col (anys cols :: rows) k) (col rows k) := fun k x hx hxf => by
    obtain ⟨r, g1, g2⟩ := col_mem.1 hx
    rcases List.mem_cons.1 g1 with rfl | g1
    ·rw [anys_get g2] at hxf
     cases hxf
    ·exact col_mem.2 ⟨r, g1, g2⟩
   have hM : Mat D (anys cols :: rows) (anys cols).length := by
    rw [anys_len]
    refine ⟨fun r hr => ?_, fun r hr p hp => ?_, fun k => (h.agr k).mono (hcol k)⟩
    ·rcases List.mem_cons.1 hr with rfl | hr
     ·exact anys_len cols
     ·exact h.len r hr
    ·rcases List.mem_cons.1 hr with rfl | hr
     ·rw [List.eq_of_mem_replicate hp]
      exact Wf.any D
     ·exact h.wf r hr p hp
   obtain ⟨u, u1, _, u3, u4⟩ := useful_sound hU f rows (anys cols) hM h2
   rw [anys_len] at u1 hM
   exact ⟨u, u1, u3, fun k x hx => ((u4.ok hM) k x hx).mono (sub.of (fun p hp => by
    obtain ⟨r, g1, g2⟩ := col_mem.1 hp
    exact col_mem.2 ⟨r, .tail _ g1, g2⟩))⟩
  obtain ⟨w, hF, hw⟩ := cover_find (I := Fol D rows cols (fun u => ∀ r ∈ rows, fitA r u = -1)) (fun w hw h2 => hw.step hU h (fun a b ha hP hab r hr => (hab.fits r (by rw [h.len r hr, ha])).1 (hP r hr)) h2) m _ used false r hc hul ⟨_, .head _, Fol.start h hv1 hv2 hv3⟩
  rcases hw with ⟨_, e⟩ | ⟨e, _⟩
  ·exact e
  ·obtain ⟨hl, u, hu, hP, hR, _, _⟩ := hF
   rcases which_cases rows w 0 with ⟨i, s, _, g2, g3, _⟩ | ⟨g1, _⟩ | ⟨g1, _⟩
   ·have hsr := List.mem_of_getElem? g2
    have := (row_fits h hl hu (fun r hr => (alive_mem.1 hr).1) hR (alive_mem.2 ⟨hsr, by omega⟩)).1 g3
    have := hP s hsr
    omega
   ·omega
   ·omega
end Go.Pt

/- Plain: what patterns.check tells. No program in sight. No condition. -/
namespace Go.Pt
open Go.Eng
mutual
/-- the nodes of patterns, added up; whether they are few and not too deep -/
def szA : List Ty → Nat → Nat → Bool × Nat
 | [], _, m => (true, m)
 | p :: l, d, m => if 20 < d then (false, m) else if 400 < m + 1 then (false, m + 1) else if (szP p (d + 1) (m + 1)).1 then szA l d (szP p (d + 1) (m + 1)).2 else (false, (szP p (d + 1) (m + 1)).2)
def szP : Ty → Nat → Nat → Bool × Nat
 | .mk _ _ _ l, d, m => szA l d m
end
theorem szP_eq (p : Ty) (d m : Nat) : szP p d m = szA p.args d m := by
 cases p with
 | mk k nm n l => rw [szP]; rfl
mutual
theorem szA_le : ∀ (l : List Ty) (d m : Nat), m ≤ 400 → m ≤ (szA l d m).2 ∧ (szA l d m).2 ≤ 401 ∧ ((szA l d m).1 = true → (szA l d m).2 ≤ 400 ∧ wtA l + l.length ≤ 2 * ((szA l d m).2 - m))
 | [], d, m, hm => by
  simp only [szA, wtA, List.length_nil]
  omega
 | p :: l, d, m, hm => by
  rw [szA]
  by_cases h1 : 20 < d
  ·rw [if_pos h1]
   exact ⟨Nat.le_refl _, by omega, fun h => by cases h⟩
  rw [if_neg h1]
  by_cases h2 : 400 < m + 1
  ·rw [if_pos h2]
   exact ⟨by simp only; omega, by simp only; omega, fun h => by cases h⟩
  rw [if_neg h2]
  obtain ⟨g1, g2, g3⟩ := szP_le p (d + 1) (m + 1) (by omega)
  by_cases h3 : (szP p (d + 1) (m + 1)).1 = true
  ·rw [if_pos h3]
   obtain ⟨e1, e2⟩ := g3 h3
   obtain ⟨k1, k2, k3⟩ := szA_le l d (szP p (d + 1) (m + 1)).2 e1
   refine ⟨by omega, k2, fun h => ?_⟩
   obtain ⟨e3, e4⟩ := k3 h
   refine ⟨e3, ?_⟩
   rw [wtA, List.length_cons]
   omega
  ·rw [if_neg h3]
   exact ⟨by simp only; omega, g2, fun h => by cases h⟩
theorem szP_le : ∀ (p : Ty) (d m : Nat), m ≤ 400 → m ≤ (szP p d m).2 ∧ (szP p d m).2 ≤ 401 ∧ ((szP p d m).1 = true → (szP p d m).2 ≤ 400 ∧ wt p ≤ 2 * ((szP p d m).2 - m) + 1)
 | .mk k nm n l, d, m, hm => by
  obtain ⟨h1, h2, h3⟩ := szA_le l d m hm
  rw [szP]
  refine ⟨h1, h2, fun h => ?_⟩
  obtain ⟨e1, e2⟩ := h3 h
  refine ⟨e1, ?_⟩
  rw [wt]
  split <;> omega
end
def smR : List (List Ty) → Nat → Bool
 | [], _ => true
 | r :: rs, m => if 16 < r.length then false else if (szA r 1 m).1 then smR rs (szA r 1 m).2 else false
theorem smR_wt : ∀ (rows : List (List Ty)) (m : Nat), m ≤ 400 → smR rows m = true → (∀ r ∈ rows, r.length ≤ 16) ∧ wtR rows + 2 * m ≤ 800
 | [], m, hm, _ => ⟨fun r hr => (by cases hr), by simp only [wtR]; omega⟩
 | r :: rs, m, hm, h => by
  rw [smR] at h
  by_cases h1 : 16 < r.length
  ·rw [if_pos h1] at h; cases h
  rw [if_neg h1] at h
  by_cases h2 : (szA r 1 m).1 = true
  ·rw [if_pos h2] at h
   obtain ⟨_, _, g⟩ := szA_le r 1 m hm
   obtain ⟨g1, g2⟩ := g h2
   obtain ⟨k1, k2⟩ := smR_wt rs _ g1 h
   refine ⟨fun s hs => ?_, ?_⟩
   ·rcases List.mem_cons.1 hs with rfl | hs
    ·omega
    ·exact k1 s hs
   ·rw [wtR]
    have := (szA_le r 1 m hm).1
    omega
  ·rw [if_neg h2] at h; cases h
def smallE (D : List Da) (rows : List (List Ty)) : Bool := smR rows 0 && (decide (rows.length ≤ 64) && !D.any fun d => decide (256 < d.cons.length))
/-! the forms of patterns -/
mutual
def patE (D : List Da) : Ty → Int
 | .mk k nm n l => if k = 0 ∨ k = 1 then 0 else if k = 2 then (if n < -1073741824 ∨ 1073741823 < n then 4 else 0) else if k = 3 then (match conAt D nm with
   | none => 6
   | some (_, c) => if l.length = c.many then patL D l else 3)
  else 3
def patL (D : List Da) : List Ty → Int
 | [] => 0
 | p :: l => if patE D p = 0 then patL D l else patE D p
end
mutual
theorem patE_wf (D : List Da) : ∀ p : Ty, patE D p = 0 → Wf D p
 | .mk k nm n l, h => by
  rw [patE] at h
  by_cases h1 : k = 0 ∨ k = 1
  ·refine .fr ?_
   unfold free
   rcases h1 with rfl | rfl <;> rfl
  rw [if_neg h1] at h
  by_cases h2 : k = 2
  ·rw [if_pos h2] at h
   by_cases h3 : n < -1073741824 ∨ 1073741823 < n
   ·rw [if_pos h3] at h; cases h
   ·exact .int h2 (show n ≤ 1073741823 by omega)
  rw [if_neg h2] at h
  by_cases h3 : k = 3
  ·rw [if_pos h3] at h
   cases hc : conAt D nm with
   | none => rw [hc] at h; cases h
   | some z =>
    obtain ⟨d, c⟩ := z
    rw [hc] at h
    simp only at h
    by_cases h4 : l.length = c.many
    ·rw [if_pos h4] at h
     exact .con h3 hc h4 (patL_wf D l h)
    ·rw [if_neg h4] at h; cases h
  ·rw [if_neg h3] at h; cases h
theorem patL_wf (D : List Da) : ∀ l : List Ty, patL D l = 0 → ∀ p ∈ l, Wf D p
 | [], _, p, hp => by cases hp
 | q :: l, h, p, hp => by
  rw [patL] at h
  by_cases h1 : patE D q = 0
  ·rw [if_pos h1] at h
   rcases List.mem_cons.1 hp with e | hp
   ·rw [e]
    exact patE_wf D q h1
   ·exact patL_wf D l h p hp
  ·rw [if_neg h1] at h
   exact absurd h h1
end
/-! patterns of one type -/
def kindE (D : List Da) (p : Ty) : Int := if p.kind = 2 then -1 else if p.kind = 3 then (match conAt D p.name with
 | none => 0
 | some (d, _) => (d : Int)) else -2
def nf (l : List Ty) : List Ty := l.filter fun p => !free p
def oneKind (D : List Da) (l : List Ty) : Bool := match l with
 | [] => true
 | p :: r => (p :: r).all fun q => decide (kindE D q = kindE D p)
def agrE (D : List Da) : Nat → List Ty → Bool
 | 0, _ => true
 | f + 1, l => oneKind D (nf l) && (List.range (nf l).length).all fun k => match (nf l)[k]? with
  | none => true
  | some p => ((nf l).take k).any (fun q => decide (q.name = p.name)) || (decide (p.kind ≠ 3) || (List.range p.args.length).all fun n => agrE D f (under (nf l) p.name n))
theorem nf_mem {l : List Ty} {p : Ty} : p ∈ nf l ↔ p ∈ l ∧ free p = false := by
 unfold nf
 rw [List.mem_filter]
 simp
theorem first_name : ∀ (l : List Ty) (p : Ty), p ∈ l → ∃ (k : Nat) (q : Ty), l[k]? = some q ∧ q.name = p.name ∧ (l.take k).any (fun z => decide (z.name = q.name)) = false
 | x :: l, p, hp => by
  by_cases hx : x.name = p.name
  ·exact ⟨0, x, rfl, hx, rfl⟩
  ·rcases List.mem_cons.1 hp with rfl | hp
   ·exact absurd rfl hx
   ·obtain ⟨k, q, h1, h2, h3⟩ := first_name l p hp
    refine ⟨k + 1, q, by simpa using h1, h2, ?_⟩
    rw [List.take_succ_cons, List.any_cons, h3, Bool.or_false, decide_eq_false_iff_not, h2]
    exact hx
theorem sz_args (p : Ty) : p.sz = Ty.szs p.args + 1 := by
 cases p with
 | mk k nm n l => simp only [Ty.sz, Ty.args]
theorem under_sz (nm : ByteArray) (n : Nat) : ∀ l : List Ty, Ty.szs (under l nm n) ≤ Ty.szs l
 | [] => Nat.le_refl _
 | p :: l => by
  have ih := under_sz nm n l
  unfold under at ih ⊢
  rw [List.filterMap_cons]
  by_cases hc : free p = false ∧ p.name = nm
  ·rw [if_pos hc]
   cases ha : p.args[n]? with
   | none => simp only [Ty.szs]; omega
   | some a =>
    simp only [Ty.szs]
    have := Ty.sz_get ha
    have := sz_args p
    omega
  ·rw [if_neg hc]
   simp only [Ty.szs]
   omega
theorem under_lt {l : List Ty} {p : Ty} (hp : p ∈ l) (hf : free p = false) {n : Nat} (hn : n < p.args.length) : Ty.szs (under l p.name n) < Ty.szs l := by
 induction l with
 | nil => cases hp
 | cons q l ih =>
  have h2 := under_sz p.name n l
  unfold under at ih h2 ⊢
  rw [List.filterMap_cons]
  rcases List.mem_cons.1 hp with rfl | hp
  ·rw [if_pos ⟨hf, rfl⟩, List.getElem?_eq_getElem hn]
   simp only [Ty.szs]
   have := Ty.sz_get (List.getElem?_eq_getElem hn)
   have := sz_args p
   omega
  ·have ih := ih hp
   by_cases hc : free q = false ∧ q.name = p.name
   ·rw [if_pos hc]
    cases ha : q.args[n]? with
    | none => simp only [Ty.szs]; omega
    | some a =>
     simp only [Ty.szs]
     have := Ty.sz_get ha
     have := sz_args q
     omega
   ·rw [if_neg hc]
    simp only [Ty.szs]
    omega
theorem nf_sz : ∀ l : List Ty, Ty.szs (nf l) ≤ Ty.szs l
 | [] => Nat.le_refl _
 | p :: l => by
  have ih := nf_sz l
  unfold nf at ih ⊢
  rw [List.filter_cons]
  split <;> simp only [Ty.szs] <;> omega
theorem agrE_agr (D : List Da) : ∀ (f : Nat) (l : List Ty), Ty.szs l < f → (∀ p ∈ l, Wf D p) → agrE D f l = true → Agr D l
 | 0, l, hf, _, _ => by omega
 | f + 1, l, hf, hw, h => by
  rw [agrE, Bool.and_eq_true, List.all_eq_true] at h
  obtain ⟨h1, h2⟩ := h
  have hk : ∀ p ∈ l, ∀ q ∈ l, free p = false → free q = false → kindE D p = kindE D q := fun p hp q hq hpf hqf => by
   have hp' := nf_mem.2 ⟨hp, hpf⟩
   have hq' := nf_mem.2 ⟨hq, hqf⟩
   cases hn : nf l with
   | nil => rw [hn] at hp'; cases hp'
   | cons x r =>
    rw [hn] at h1 hp' hq'
    simp only [oneKind, List.all_eq_true, decide_eq_true_eq] at h1
    rw [h1 p hp', h1 q hq']
  have hkk : ∀ p ∈ l, ∀ q ∈ l, free p = false → free q = false → p.kind = q.kind ∧ (p.kind = 3 → dOf D p.name = dOf D q.name) := fun p hp q hq hpf hqf => by
   have e := hk p hp q hq hpf hqf
   have kp := (hw p hp).kinds hpf
   have kq := (hw q hq).kinds hqf
   unfold kindE at e
   rcases kp with kp | kp <;> rcases kq with kq | kq
   ·exact ⟨by rw [kp, kq], fun h => by omega⟩
   ·rw [if_pos kp, if_neg (by omega), if_pos kq] at e
    split at e <;> omega
   ·rw [if_neg (by omega), if_pos kp, if_pos kq] at e
    split at e <;> omega
   ·rw [if_neg (by omega), if_pos kp, if_neg (by omega), if_pos kq] at e
    obtain ⟨d, c, g1, _⟩ := (hw p hp).cons kp
    obtain ⟨d', c', g2, _⟩ := (hw q hq).cons kq
    rw [g1, g2] at e
    simp only at e
    refine ⟨by rw [kp, kq], fun _ => ?_⟩
    rw [dOf_of g1, dOf_of g2]
    congr 1
    omega
  refine .mk hkk (fun p hp hpf hpk n hn => ?_)
  obtain ⟨k, q, g1, g2, g3⟩ := first_name (nf l) p (nf_mem.2 ⟨hp, hpf⟩)
  have hq := nf_mem.1 (List.mem_of_getElem? g1)
  have h4 := h2 k (List.mem_range.2 (List.getElem?_eq_some_iff.1 g1).1)
  rw [g1] at h4
  simp only [g3, Bool.false_or, Bool.or_eq_true, decide_eq_true_eq, List.all_eq_true, List.mem_range] at h4
  have hqk : q.kind = 3 := by rw [(hkk q hq.1 p hp hq.2 hpf).1, hpk]
  have hql : q.args.length = p.args.length := by
   obtain ⟨d, c, e1, e2, _⟩ := (hw p hp).cons hpk
   obtain ⟨d', c', e3, e4, _⟩ := (hw q hq.1).cons hqk
   rw [g2, e1] at e3
   cases e3
   omega
  have h5 := h4.resolve_left (by simp [hqk]) n (by omega)
  rw [g2] at h5
  have hlt := under_lt (l := nf l) (p := p) (nf_mem.2 ⟨hp, hpf⟩) hpf hn
  have hsz := nf_sz l
  have hag := agrE_agr D f (under (nf l) p.name n) (by omega) (fun z hz => by
   obtain ⟨r, k1, k2, k3, k4⟩ := under_mem.1 hz
   obtain ⟨k5, k6⟩ := nf_mem.1 k1
   have hrk : r.kind = 3 := by rw [(hkk r k5 p hp k6 hpf).1, hpk]
   obtain ⟨_, _, _, _, k7⟩ := (hw r k5).cons hrk
   exact k7 z (List.mem_of_getElem? k4)) h5
  refine hag.mono (sub.of fun z hz => ?_)
  obtain ⟨r, k1, k2, k3, k4⟩ := under_mem.1 hz
  exact under_mem.2 ⟨r, nf_mem.2 ⟨k1, k2⟩, k2, k3, k4⟩
/-! the whole check -/
def flatN (D : List Da) : List ByteArray := D.flatMap fun d => d.cons.map (·.name)
def patR (D : List Da) : List (List Ty) → Int
 | [] => 0
 | r :: rs => if patL D r = 0 then patR D rs else patL D r
def fuelC (rows : List (List Ty)) (k : Nat) : Nat := Ty.szs (col rows k) + 1
def checkE (D : List Da) (rows : List (List Ty)) : Int :=
 if smallE D rows = false then 2 else if ¬ (flatN D).Nodup then 7 else match rows with
 | [] => 0
 | r0 :: rs => if (r0 :: rs).all (fun r => decide (r.length = r0.length)) = false then 3 else if patR D (r0 :: rs) ≠ 0 then patR D (r0 :: rs) else if (List.range r0.length).all (fun k => agrE D (fuelC (r0 :: rs) k) (col (r0 :: rs) k)) = false then 10 else 0
theorem conAt_uniq : ∀ {D : List Da}, (flatN D).Nodup → Uniq D
 | [], _, i, c, hc => by simp [consOf] at hc
 | x :: D, h, i, c, hc => by
  unfold flatN at h
  rw [List.flatMap_cons, List.nodup_append] at h
  obtain ⟨h1, h2, h3⟩ := h
  have find_of : ∀ (l : List Co), (l.map (·.name)).Nodup → c ∈ l → conIn l c.name = some c := fun l => by
   induction l with
   | nil => intro _ h; cases h
   | cons y l ih =>
    intro hn hm
    rw [List.map_cons, List.nodup_cons] at hn
    unfold conIn
    rw [List.find?_cons]
    rcases List.mem_cons.1 hm with rfl | hm
    ·simp
    ·have : y.name ≠ c.name := fun e => hn.1 (by rw [e]; exact List.mem_map_of_mem hm)
     rw [decide_eq_false this]
     exact ih hn.2 hm
  cases i with
  | zero =>
   have hc : c ∈ x.cons := hc
   unfold conAt
   rw [find_of _ h1 hc]
  | succ i =>
   have hc : c ∈ consOf D i := hc
   have ih := conAt_uniq (D := D) h2 i c hc
   unfold conAt
   have hno : conIn x.cons c.name = none := by
    unfold conIn
    rw [List.find?_eq_none]
    intro y hy e
    have e : y.name = c.name := by simpa using e
    have hcm : c.name ∈ D.flatMap fun d => d.cons.map (·.name) := by
     unfold consOf at hc
     cases hx : D[i]? with
     | none => rw [hx] at hc; cases hc
     | some d =>
      rw [hx] at hc
      exact List.mem_flatMap.2 ⟨d, List.mem_of_getElem? hx, List.mem_map_of_mem hc⟩
    exact h3 _ (List.mem_map_of_mem hy) _ hcm e
   rw [hno, ih]
   rfl
theorem patR_wf (D : List Da) : ∀ rows : List (List Ty), patR D rows = 0 → ∀ r ∈ rows, ∀ p ∈ r, Wf D p
 | [], _, r, hr => by cases hr
 | s :: rs, h, r, hr => by
  rw [patR] at h
  by_cases h1 : patL D s = 0
  ·rw [if_pos h1] at h
   rcases List.mem_cons.1 hr with rfl | hr
   ·exact patL_wf D r h1
   ·exact patR_wf D rs h r hr
  ·rw [if_neg h1] at h
   exact absurd h h1
theorem checkE_ok {D : List Da} {rows : List (List Ty)} (h : checkE D rows = 0) : Uniq D ∧ rows.length ≤ 64 ∧ wtR rows ≤ 800 ∧ ∃ cols, (∀ r0 rs, rows = r0 :: rs → cols = r0.length) ∧ cols ≤ 16 ∧ Mat D rows cols := by
 unfold checkE at h
 by_cases h1 : smallE D rows = false
 ·rw [if_pos h1] at h; cases h
 rw [if_neg h1] at h
 by_cases h2 : ¬ (flatN D).Nodup
 ·rw [if_pos h2] at h; cases h
 rw [if_neg h2] at h
 have h2 : (flatN D).Nodup := Decidable.not_not.1 h2
 have h1 : smallE D rows = true := by simpa using h1
 unfold smallE at h1
 rw [Bool.and_eq_true, Bool.and_eq_true, decide_eq_true_eq] at h1
 obtain ⟨s1, s2⟩ := smR_wt rows 0 (by omega) h1.1
 refine ⟨conAt_uniq h2, h1.2.1, by omega, ?_⟩
 cases rows with
 | nil => exact ⟨0, fun r0 rs e => (by cases e), by omega, fun r hr => (by cases hr), fun r hr => (by cases hr), fun k => Agr.nil⟩
 | cons r0 rs =>
  simp only at h
  by_cases h3 : (r0 :: rs).all (fun r => decide (r.length = r0.length)) = false
  ·rw [if_pos h3] at h; cases h
  rw [if_neg h3] at h
  by_cases h4 : patR D (r0 :: rs) ≠ 0
  ·rw [if_pos h4] at h
   exact absurd h h4
  rw [if_neg h4] at h
  by_cases h5 : (List.range r0.length).all (fun k => agrE D (fuelC (r0 :: rs) k) (col (r0 :: rs) k)) = false
  ·rw [if_pos h5] at h; cases h
  simp only [Bool.not_eq_false, List.all_eq_true, decide_eq_true_eq, List.mem_range] at h3 h5
  have hwf := patR_wf D _ (Decidable.not_not.1 h4)
  refine ⟨r0.length, fun a b e => by cases e; rfl, s1 r0 (.head _), h3, hwf, fun k => ?_⟩
  by_cases hk : k < r0.length
  ·exact agrE_agr D _ _ (Nat.lt_succ_self _) (fun p hp => by
    obtain ⟨r, g1, g2⟩ := col_mem.1 hp
    exact hwf r g1 p (List.mem_of_getElem? g2)) (h5 k hk)
  ·refine Agr.nil.mono (fun p hp _ => ?_)
   obtain ⟨r, g1, g2⟩ := col_mem.1 hp
   have := (List.getElem?_eq_some_iff.1 g2).1
   rw [h3 r g1] at this
   exact absurd this hk
end Go.Pt

/- The walks of the reference's ConOf, fits, FitsAll and Which. Conditions: none. -/
namespace Go.Pt
open Go.Eng Go.RowKit
theorem fitA_step {ps vs : List (Ty × PY)} {i : Nat} {p v : Ty × PY} (h1 : ps[i]? = some p) (h2 : vs[i]? = some v) : fitA ((ps.drop i).map Prod.fst) ((vs.drop i).map Prod.fst) = min (fit p.1 v.1) (fitA ((ps.drop (i + 1)).map Prod.fst) ((vs.drop (i + 1)).map Prod.fst)) := by
 obtain ⟨g1, rfl⟩ := List.getElem?_eq_some_iff.1 h1
 obtain ⟨g2, rfl⟩ := List.getElem?_eq_some_iff.1 h2
 rw [List.drop_eq_getElem_cons g1, List.drop_eq_getElem_cons g2, List.map_cons, List.map_cons, fitA]
end Go.Pt
namespace Go.Proofs.Ytleggdmhihcafaa.pt
open Go.RowKit Go.Eng Go.Pt
set_option maxRecDepth 100000
theorem FitsAll_of (q q2 : Option Addr) (cap cap2 : Nat) (ps vs : List (Ty × PY)) (w : World) (hlen : ps.length ≤ 9223372036854775807) (hvl : vs.length ≤ 9223372036854775807) (h : Arr tyR w (low w) ps q) (h2 : Arr tyR w (low w) vs q2) (hle : ps.length ≤ vs.length)
  (hf : ∀ p ∈ ps, ∀ v ∈ vs, ∀ w', Ext w w' → Calls Try.prog 23 [.agg (tyc p.1 p.2).toArray, .agg (tyc v.1 v.2).toArray].toArray w' fun e w'' => e = .returned (.int .i64 (fit p.1 v.1)) ∧ Ext w' w'') :
  Calls Try.prog 10 [.slice q ps.length cap, .slice q2 vs.length cap2].toArray w fun e w' => e = .returned (.int .i64 (fitA (ps.map Prod.fst) (vs.map Prod.fst))) ∧ Ext w w' := by
 refine enter Try.func10 rfl Try.ntmps10 rfl (Cls.start w) ?_
 (simp only [argEnv, Nat.zero_add, Nat.reduceAdd])
 apply W.sr
 apply oas; rfl; rfl
 apply OL.nsr
 apply oas; rfl; rfl
 apply OL.nx
 apply W.seq
 apply W.sr
 apply omv; rfl; rfl
 apply oop; rfl; apply Pev.len_slice; rfl; exact yes; rfl
 apply omv; rfl; rfl
 apply OL.nx
 apply W.block
 refine W.loop (G := Nat × Int) (fun g => g.1 ≤ ps.length ∧ g.2 ≤ 1 ∧ min g.2 (fitA ((ps.drop g.1).map Prod.fst) ((vs.drop g.1).map Prod.fst)) = fitA (ps.map Prod.fst) (vs.map Prod.fst)) (fun g => ps.length - g.1)
  (fun g => [(1, true, .slice q2 vs.length cap2), (5, true, .int .i64 g.2), (8, true, .slice q ps.length cap), (9, true, .int .i64 (ps.length : Int)), (10, true, .int .i64 (g.1 : Int))])
  (fun g => Cls [] [w]) (0, 1) ⟨Nat.zero_le _, Int.le_refl _, by have := fitA_range (ps.map Prod.fst) (vs.map Prod.fst); simp only [List.drop_zero]; omega⟩ (by exact Sub.au) (fun w' hw' => hw') ?_
 rintro ⟨i, worst⟩ ⟨hi, hw1, hrest⟩
 simp only at hi hw1 hrest ⊢
 apply W.sr
 apply obn; rfl; rfl; rfl; apply Bin.lss
 apply OL.nx
 apply W.seq
 (refine W.cnd (fun hlt => ?_) (fun hlt => ?_)) <;> (try (exfalso; first | omega | exact hlt trivial | contradiction))
 ·obtain ⟨a, u, rfl, hab, hu, hcell, hok⟩ := h.get (show i < ps.length by omega)
  obtain ⟨a2, v, rfl, hab2, hv, hcell2, hok2⟩ := h2.get (show i < vs.length by omega)
  have hab : a.block < w.heap.size := hab
  have hab2 : a2.block < w.heap.size := hab2
  have hcell : CellsAt w (a.add (i * 4)) [.int .i64 u.1.kind, .string u.1.name, .int .i64 u.1.var, .slice u.2.1 u.1.args.length u.2.2] := hcell
  have hcell2 : CellsAt w (a2.add (i * 4)) [.int .i64 v.1.kind, .string v.1.name, .int .i64 v.1.var, .slice v.2.1 v.1.args.length v.2.2] := hcell2
  have hfv := hf u (List.mem_of_getElem? hu) v (List.mem_of_getElem? hv)
  simp only [tyc] at hfv
  rw [fitA_step hu hv] at hrest
  apply W.sk
  apply W.sb
  apply W.sr
  apply omv; rfl; rfl
  apply oop; rfl; apply Pev.idx; rfl; exact yes; rfl; exact yes; rfl; rfl; intro hcond; omega
  apply oop; rfl; apply Pev.load_keptA; rfl; exact yes; exact .head _; rfl; intro hcond; assumption; rfl; intro hcond; (rw [add_block]; assumption); intro hcond; exact NotOwned.au
  apply OL.alloc; rfl; rfl; exact CellsL.agg; (intro bk hbk; simp only [AllLe, and_true] at hbk)
  apply oas; rfl; rfl
  apply OL.storeB; rfl; rfl; exact CellsL.agg; rfl; rfl; rfl; exact Swap.au; exact Put.au
  apply OL.nx
  apply W.regd0; decide +kernel; kernel_rfl; decide +kernel; exact fun w hw => hw.drew
  apply qmv; rfl; rfl
  apply qop; rfl; apply Pev.load_blkA; rfl; exact yes; exact .head _; rfl; exact Take.au
  apply qmv; rfl; rfl
  apply qmv; rfl; rfl
  apply qop; rfl; apply Pev.idx; rfl; exact yes; rfl; exact yes; rfl; rfl; intro hcond; omega
  apply qop; rfl; apply Pev.load_keptA; rfl; exact yes; exact .head _; rfl; intro hcond; assumption; rfl; intro hcond; (rw [add_block]; assumption); intro hcond; exact NotOwned.au
  (((first | (with_reducible apply OL.op) | (with_reducible apply QL.op)); (exact Guard.au); rfl; rfl); (exact Pev.call (v := .int .i64 (fit u.1 v.1)) rfl (by exact Args.au) (fun _ w2 hw2 => (hfv w2 (hw2.toExt (.head _) (fun k hk => NotOwned.blk (by omega) .nil))).mono (fun e w3 h => ⟨h.1, hw2.ext h.2⟩))))
  apply qop; rfl; apply Pev.min2; rfl; exact yes; rfl; exact yes
  apply qas; rfl; rfl
  apply QL.nil
  with_reducible apply At.in_normal
  with_reducible apply At.next
  apply W.reg
  apply obn; rfl; rfl; rfl; apply Bin.add_in; omega
  apply omv; rfl; rfl
  apply OL.nil
  have hmin : (if fit u.1 v.1 < worst then fit u.1 v.1 else worst) = min worst (fit u.1 v.1) := by split <;> omega
  rw [hmin]
  exact At.again (i + 1, min worst (fit u.1 v.1)) ⟨by simp only; omega, by simp only; omega, by simp only; rw [← hrest]; omega⟩ (by simp only; omega) (by exact Sub.au) (fun w' hw' => hw'.thin (by exact Thin.au))
 ·rw [List.drop_eq_nil_of_le (by omega), List.map_nil, fitA] at hrest
  refine W.xt ?_
  with_reducible apply At.next
  apply W.sr
  apply omv; rfl; rfl
  apply oas; rfl; rfl
  apply OL.nx
  apply W.ret
  ((with_reducible apply At.fin1); rfl; rfl; intro w' hw')
  exact ⟨by rw [← hrest, show min worst 1 = worst by omega], by (exact hw'.fr)⟩
theorem fits_calls : ∀ (n : Nat) (p v : Ty) (y z : PY) (w : World), p.sz < n → TyO w (low w) p y → TyO w (low w) v z →
  Calls Try.prog 23 [.agg (tyc p y).toArray, .agg (tyc v z).toArray].toArray w fun e w' => e = .returned (.int .i64 (fit p v)) ∧ Ext w w' := by
 intro n
 induction n with
 | zero => intro p v y z w hn; omega
 | succ n ih =>
  intro p v y z w hn hp hv
  obtain ⟨pz, hpz, hpza, hpzl, _⟩ := pat_kids hp
  obtain ⟨vz, hvz, hvza, hvzl, _⟩ := pat_kids hv
  have hpzl2 : pz.length = p.args.length := by rw [← hpz, List.length_map]
  have hvzl2 : vz.length = v.args.length := by rw [← hvz, List.length_map]
  have hfe := fit_eq p v
  refine enter Try.func23 rfl Try.ntmps23 rfl (Cls.start w) ?_
  (simp only [argEnv, Nat.zero_add, Nat.reduceAdd])
  simp only [tyc]
  apply W.sr
  apply OL.box; rfl; rfl; exact CellsL.agg; (intro bk hbk; simp only [AllLe, and_true] at hbk)
  apply OL.box; rfl; rfl; exact CellsL.agg; (intro bk hbk; simp only [AllLe, and_true] at hbk)
  apply oas; rfl; rfl
  apply OL.nx
  apply W.seq
  apply W.sr
  apply ofa; rfl; rfl; rfl
  apply old; rfl; rfl; exact .tail _ (.head _); rfl; rfl
  apply obn; rfl; rfl; rfl; apply Bin.eql
  apply omv; rfl; rfl
  apply ono; rfl; rfl; rfl; apply Pev.fld; rfl; exact yes; rfl
  apply ono; rfl; rfl; rfl; apply Pev.load_blk; rfl; exact fun h => h; exact .tail _ (.head _); rfl; rfl
  apply ono; rfl; rfl; rfl; apply Pev.bin; rfl; exact fun h => h; rfl; exact yes; intro hcond; apply Bin.eql
  apply oop; rfl; apply Pev.pick_or; rfl; exact yes; rfl; exact fun h => h
  apply OL.nx
  revert bk
  intro b3 hb3
  rename_i b2 hb2
  refine W.cond rfl (fun hb => ?_) (fun hb => ?_)
  ·have hb : free p = true := hb
   rw [if_pos hb] at hfe
   rw [hfe]
   apply W.sr
   apply oas; rfl; rfl
   apply OL.nx
   refine W.rt ?_
   ((with_reducible apply At.fin1); rfl; rfl; intro w' hw')
   exact ⟨rfl, by (exact hw'.fr)⟩
  have hb : free p = false := hb
  rw [hb, if_neg (by decide)] at hfe
  apply W.sk
  apply W.seq
  apply W.sr
  apply ofa; rfl; rfl; rfl
  apply old; rfl; rfl; exact .head _; rfl; rfl
  apply obn; rfl; rfl; rfl; apply Bin.eql
  apply omv; rfl; rfl
  apply ono; rfl; rfl; rfl; apply Pev.fld; rfl; exact yes; rfl
  apply ono; rfl; rfl; rfl; apply Pev.load_blk; rfl; exact fun h => h; exact .head _; rfl; rfl
  apply ono; rfl; rfl; rfl; apply Pev.bin; rfl; exact fun h => h; rfl; exact yes; intro hcond; apply Bin.eql
  apply oop; rfl; apply Pev.pick_or; rfl; exact yes; rfl; exact fun h => h
  apply OL.nx
  refine W.cond rfl (fun hb => ?_) (fun hb => ?_)
  ·have hb : free v = true := hb
   rw [if_pos hb] at hfe
   rw [hfe]
   apply W.sr
   apply oas; rfl; rfl
   apply OL.nx
   refine W.rt ?_
   ((with_reducible apply At.fin1); rfl; rfl; intro w' hw')
   exact ⟨rfl, by (exact hw'.fr)⟩
  have hb2 : free v = false := hb
  rw [hb2, if_neg (by decide)] at hfe
  apply W.sk
  apply W.seq
  apply W.sr
  apply ofa; rfl; rfl; rfl
  apply old; rfl; rfl; exact .tail _ (.head _); rfl; rfl
  apply ofa; rfl; rfl; rfl
  apply old; rfl; rfl; exact .head _; rfl; rfl
  apply obn; rfl; rfl; rfl; apply Bin.neq
  apply omv; rfl; rfl
  apply ono; rfl; rfl; rfl; apply Pev.fld; rfl; exact yes; rfl
  apply ono; rfl; rfl; rfl; apply Pev.load_blk; rfl; exact fun h => h; exact .tail _ (.head _); rfl; rfl
  apply ono; rfl; rfl; rfl; apply Pev.bin; rfl; exact fun h => h; rfl; exact yes; intro hcond; apply Bin.eql
  apply ono; rfl; rfl; rfl; apply Pev.move; rfl; exact fun h => h
  apply OL.op; exact Guard.cyes rfl rfl; rfl; rfl; apply Pev.fld; rfl; exact yes; rfl
  apply OL.op; exact Guard.cyes rfl rfl; rfl; rfl; apply Pev.load_blk; rfl; exact fun h => h; exact .tail _ (.head _); rfl; rfl
  apply OL.op; exact Guard.cyes rfl rfl; rfl; rfl; apply Pev.fld; rfl; exact yes; rfl
  apply OL.op; exact Guard.cyes rfl rfl; rfl; rfl; apply Pev.load_blk; rfl; exact fun h => h; exact .head _; rfl; rfl
  apply OL.op; exact Guard.cyes rfl rfl; rfl; rfl; apply Pev.bin; rfl; exact fun h => h; rfl; exact fun h => h; intro hcond; apply Bin.neq
  apply ono; rfl; rfl; rfl; apply Pev.pick_and; rfl; exact fun h => h; rfl; exact fun h => h
  apply oop; rfl; apply Pev.pick_or; rfl; exact yes; rfl; exact fun h => h
  apply omv; rfl; rfl
  apply ono; rfl; rfl; rfl; apply Pev.fld; rfl; exact yes; rfl
  apply ono; rfl; rfl; rfl; apply Pev.load_blk; rfl; exact fun h => h; exact .tail _ (.head _); rfl; rfl
  apply ono; rfl; rfl; rfl; apply Pev.bin; rfl; exact fun h => h; rfl; exact yes; intro hcond; apply Bin.eql
  apply ono; rfl; rfl; rfl; apply Pev.move; rfl; exact fun h => h
  apply OL.op; exact Guard.cyes rfl rfl; rfl; rfl; apply Pev.fld; rfl; exact yes; rfl
  apply OL.op; exact Guard.cyes rfl rfl; rfl; rfl; apply Pev.load_blk; rfl; exact fun h => h; exact .tail _ (.head _); rfl; rfl
  apply OL.op; exact Guard.cyes rfl rfl; rfl; rfl; apply Pev.fld; rfl; exact yes; rfl
  apply OL.op; exact Guard.cyes rfl rfl; rfl; rfl; apply Pev.load_blk; rfl; exact fun h => h; exact .head _; rfl; rfl
  apply OL.op; exact Guard.cyes rfl rfl; rfl; rfl; apply Pev.bin; rfl; exact fun h => h; rfl; exact fun h => h; intro hcond; apply Bin.str_neq
  apply OL.op; exact Guard.cyes rfl rfl; rfl; rfl; apply Pev.move; rfl; exact fun h => h
  apply OL.op; exact Guard.cno rfl rfl; rfl; rfl; apply Pev.fld; rfl; exact yes; rfl
  apply OL.op; exact Guard.cno rfl rfl; rfl; rfl; apply Pev.load_blk; rfl; exact fun h => h; exact .tail _ (.head _); rfl; rfl
  apply OL.op; exact Guard.cno rfl rfl; rfl; rfl; apply Pev.len_slice; rfl; exact fun h => h; rfl
  apply OL.op; exact Guard.cno rfl rfl; rfl; rfl; apply Pev.fld; rfl; exact yes; rfl
  apply OL.op; exact Guard.cno rfl rfl; rfl; rfl; apply Pev.load_blk; rfl; exact fun h => h; exact .head _; rfl; rfl
  apply OL.op; exact Guard.cno rfl rfl; rfl; rfl; apply Pev.len_slice; rfl; exact fun h => h; rfl
  apply OL.op; exact Guard.cno rfl rfl; rfl; rfl; apply Pev.bin; rfl; exact fun h => h; rfl; exact fun h => h; intro hcond; apply Bin.neq
  apply OL.op; exact Guard.cyes rfl rfl; rfl; rfl; apply Pev.pick_or; rfl; exact fun h => h; rfl; exact fun h => h
  apply ono; rfl; rfl; rfl; apply Pev.pick_and; rfl; exact fun h => h; rfl; exact fun h => h
  apply oop; rfl; apply Pev.pick_or; rfl; exact yes; rfl; exact fun h => h
  apply OL.nx
  have hcast : decide ((p.args.length : Int) = (v.args.length : Int)) = decide (p.args.length = v.args.length) := decide_eq_decide.2 (by omega)
  refine W.cond rfl (fun hb => ?_) (fun hb => ?_)
  ·rw [hcast] at hb
   have hb : p.kind ≠ v.kind ∨ (p.kind = 2 ∧ p.var ≠ v.var) ∨ (p.kind = 3 ∧ (p.name ≠ v.name ∨ p.args.length ≠ v.args.length)) := by
    simpa [or_assoc] using hb
   rw [if_pos hb] at hfe
   rw [hfe]
   apply W.sr
   apply oas; rfl; rfl
   apply OL.nx
   refine W.rt ?_
   ((with_reducible apply At.fin1); rfl; rfl; intro w' hw')
   exact ⟨rfl, by (exact hw'.fr)⟩
  rw [hcast] at hb
  have hb3' : ¬ (p.kind ≠ v.kind ∨ (p.kind = 2 ∧ p.var ≠ v.var) ∨ (p.kind = 3 ∧ (p.name ≠ v.name ∨ p.args.length ≠ v.args.length))) := by
   intro hc
   have : (!decide (p.kind = v.kind) || decide (p.kind = 2) && !decide (p.var = v.var) || decide (p.kind = 3) && (!decide (p.name = v.name) || !decide (p.args.length = v.args.length))) = true := by simpa [or_assoc] using hc
   rw [this] at hb
   cases hb
  rw [if_neg hb3'] at hfe
  apply W.sk
  apply W.seq
  apply W.sr
  apply ofa; rfl; rfl; rfl
  apply old; rfl; rfl; exact .tail _ (.head _); rfl; rfl
  apply obn; rfl; rfl; rfl; apply Bin.neq
  apply OL.nx
  by_cases h3 : p.kind = 3
  ·rw [if_neg (by simp [h3])] at hfe
   refine W.cond rfl (fun hb => by simp at hb; omega) (fun _ => ?_)
   have hll : p.args.length = v.args.length := by
    refine Decidable.byContradiction fun hne => hb3' (.inr (.inr ⟨h3, .inr hne⟩))
   apply W.sk
   apply W.sr
   apply ofa; rfl; rfl; rfl
   apply old; rfl; rfl; exact .tail _ (.head _); rfl; rfl
   apply ofa; rfl; rfl; rfl
   apply old; rfl; rfl; exact .head _; rfl; rfl
   have hH : ∀ k, k < w.heap.size → NotOwned [blk b3 50 [.int .i64 v.kind, .string v.name, .int .i64 v.var, .slice z.1 v.args.length z.2], blk bk 50 [.int .i64 p.kind, .string p.name, .int .i64 p.var, .slice y.1 p.args.length y.2]] k := fun k hk => NotOwned.blk (by omega) (NotOwned.blk (by omega) .nil)
   (((first | (with_reducible apply OL.op) | (with_reducible apply QL.op)); (exact Guard.au); rfl; rfl); (refine Pev.call (v := .int .i64 (fit p v)) rfl (by exact Args.au) (fun _ w2 hw2 => ?_)))
   ·have hx2 := hw2.toExt (s := w) (.head _) hH
    have hc := FitsAll_of y.1 z.1 y.2 z.2 pz vz w2 (by omega) (by omega) (hpza.at hw2 (.head _) hH) (hvza.at hw2 (.head _) hH) (by omega) (fun a ha b hb w' hx => ih a.1 b.1 a.2 b.2 w' (by
     obtain ⟨j, hj⟩ := List.getElem?_of_mem (List.mem_map_of_mem (f := Prod.fst) ha)
     have h1 := Ty.sz_get hj
     rw [hpz] at h1
     have h2 := sz_args p
     omega) (Rel.ext (R := tyR) (hpza.el a ha) (hx2.trans hx)) (Rel.ext (R := tyR) (hvza.el b hb) (hx2.trans hx)))
    rw [hpzl2, hvzl2, hpz, hvz, ← hfe] at hc
    exact hc.mono (fun e w3 h => ⟨h.1, hw2.ext h.2⟩)
   apply oas; rfl; rfl
   apply OL.nx
   apply W.ret
   ((with_reducible apply At.fin1); rfl; rfl; intro w' hw')
   exact ⟨rfl, by (exact hw'.fr)⟩
  ·rw [if_pos h3] at hfe
   rw [hfe]
   refine W.cond rfl (fun _ => ?_) (fun hb => by simp at hb; omega)
   apply W.sr
   apply oas; rfl; rfl
   apply OL.nx
   refine W.rt ?_
   ((with_reducible apply At.fin1); rfl; rfl; intro w' hw')
   exact ⟨rfl, by (exact hw'.fr)⟩
theorem FitsAll_calls (q q2 : Option Addr) (cap cap2 : Nat) (ps vs : List (Ty × PY)) (w : World) (hlen : ps.length ≤ 9223372036854775807) (hvl : vs.length ≤ 9223372036854775807) (h : Arr tyR w (low w) ps q) (h2 : Arr tyR w (low w) vs q2) (hle : ps.length ≤ vs.length) :
  Calls Try.prog 10 [.slice q ps.length cap, .slice q2 vs.length cap2].toArray w fun e w' => e = .returned (.int .i64 (fitA (ps.map Prod.fst) (vs.map Prod.fst))) ∧ Ext w w' :=
 FitsAll_of q q2 cap cap2 ps vs w hlen hvl h h2 hle (fun p hp v hv w' hx => fits_calls (p.1.sz + 1) p.1 v.1 p.2 v.2 w' (Nat.lt_succ_self _) (Rel.ext (R := tyR) (h.el p hp) hx) (Rel.ext (R := tyR) (h2.el v hv) hx))
theorem Which_calls (q q2 : Option Addr) (cap cap2 : Nat) (rs : List (List Ty × PY)) (vs : List (Ty × PY)) (w : World) (hlen : rs.length ≤ 9223372036854775807) (hvl : vs.length ≤ 9223372036854775807) (h : Arr patsR w (low w) rs q) (h2 : Arr tyR w (low w) vs q2) (hle : ∀ r ∈ rs, r.1.length ≤ vs.length) :
  Calls Try.prog 17 [.slice q rs.length cap, .slice q2 vs.length cap2].toArray w fun e w' => e = .returned (.int .i64 (which (rs.map Prod.fst) (vs.map Prod.fst) 0)) ∧ Ext w w' := by
 refine enter Try.func17 rfl Try.ntmps17 rfl (Cls.start w) ?_
 obtain ⟨V, hV⟩ : ∃ V, vs.map Prod.fst = V := ⟨_, rfl⟩
 rw [hV]
 (simp only [argEnv, Nat.zero_add, Nat.reduceAdd])
 apply W.sr
 apply oas; rfl; rfl
 apply OL.nx
 apply W.seq
 apply W.sr
 apply omv; rfl; rfl
 apply oop; rfl; apply Pev.len_slice; rfl; exact yes; rfl
 apply omv; rfl; rfl
 apply OL.nx
 apply W.block
 refine W.loop (G := Nat) (fun i => i ≤ rs.length ∧ which ((rs.drop i).map Prod.fst) V i = which (rs.map Prod.fst) V 0) (fun i => rs.length - i)
  (fun i => [(1, true, .slice q2 vs.length cap2), (7, true, .slice q rs.length cap), (8, true, .int .i64 (rs.length : Int)), (9, true, .int .i64 (i : Int))])
  (fun i => Cls [] [w]) 0 ⟨Nat.zero_le _, rfl⟩ (by exact Sub.au) (fun w' hw' => hw') ?_
 rintro i ⟨hi, hrest⟩
 simp only at hi hrest ⊢
 apply W.sr
 apply obn; rfl; rfl; rfl; apply Bin.lss
 apply OL.nx
 apply W.seq
 (refine W.cnd (fun hlt => ?_) (fun hlt => ?_)) <;> (try (exfalso; first | omega | exact hlt trivial | contradiction))
 ·obtain ⟨a, u, rfl, hab, hu, hcell, hok⟩ := h.get (show i < rs.length by omega)
  have hab : a.block < w.heap.size := hab
  have hcell : w.cell? (a.add (i * 1)) = some (.slice u.2.1 u.1.length u.2.2) := hcell 0 _ rfl
  obtain ⟨⟨pr, hpr, hpra⟩, hrc, hrl⟩ := hok
  have hprl : pr.length = u.1.length := by rw [← hpr, List.length_map]
  have hul := hle u (List.mem_of_getElem? hu)
  have hdr : rs.drop i = u :: rs.drop (i + 1) := by
   have hl : i < rs.length := by omega
   rw [List.drop_eq_getElem_cons hl]
   rw [List.getElem?_eq_getElem hl] at hu
   rw [Option.some.inj hu]
  rw [hdr, List.map_cons, which] at hrest
  apply W.sk
  apply W.sb
  apply W.sr
  apply omv; rfl; rfl
  apply oop; rfl; apply Pev.idx; rfl; exact yes; rfl; exact yes; rfl; rfl; intro hcond; omega
  apply oop; rfl; apply Pev.load_kept; rfl; exact yes; exact .head _; rfl; intro hcond; assumption; intro hcond; (rw [add_block]; assumption); intro hcond; exact NotOwned.au
  apply oas; rfl; rfl
  apply oas; rfl; rfl
  apply OL.nsr
  apply omv; rfl; rfl
  apply omv; rfl; rfl
  (((first | (with_reducible apply OL.op) | (with_reducible apply QL.op)); (exact Guard.au); rfl; rfl); (refine Pev.call (v := .int .i64 (fitA u.1 V)) rfl (by exact Args.au) (fun _ w2 hw2 => ?_)))
  ·have hc := FitsAll_calls u.2.1 q2 u.2.2 cap2 pr vs w2 (by omega) hvl (hpra.at hw2 (.head _) (fun k hk => .nil)) (h2.at hw2 (.head _) (fun k hk => .nil)) (by omega)
   rw [hprl, hpr, hV] at hc
   exact hc.mono (fun e w3 h => ⟨h.1, hw2.ext h.2⟩)
  apply OL.nx
  apply W.block
  apply W.sr
  apply obn; rfl; rfl; rfl; apply Bin.eql
  apply oas; rfl; rfl
  apply OL.nx
  by_cases h1 : fitA u.1 V = 1
  ·rw [if_pos h1] at hrest
   rw [← hrest]
   refine W.cond rfl (fun _ => ?_) (fun hb => by simp at hb; omega)
   apply W.sr
   apply omv; rfl; rfl
   apply oas; rfl; rfl
   apply OL.nx
   refine W.rt ?_
   ((with_reducible apply At.fin1); rfl; rfl; intro w' hw')
   exact ⟨rfl, by (exact hw'.fr)⟩
  rw [if_neg h1] at hrest
  refine W.cond rfl (fun hb => by simp at hb; omega) (fun _ => ?_)
  apply W.sr
  apply obn; rfl; rfl; rfl; apply Bin.eql
  apply oas; rfl; rfl
  apply OL.nx
  by_cases h0 : fitA u.1 V = 0
  ·rw [if_pos h0] at hrest
   rw [← hrest]
   refine W.cond rfl (fun _ => ?_) (fun hb => by simp at hb; omega)
   apply W.sr
   apply oas; rfl; rfl
   apply OL.nx
   refine W.rt ?_
   ((with_reducible apply At.fin1); rfl; rfl; intro w' hw')
   exact ⟨rfl, by (exact hw'.fr)⟩
  rw [if_neg h0] at hrest
  refine W.cond rfl (fun hb => by simp at hb; omega) (fun _ => ?_)
  apply W.skip
  with_reducible apply At.in_normal
  with_reducible apply At.in_normal
  with_reducible apply At.next
  apply W.reg
  apply obn; rfl; rfl; rfl; apply Bin.add_in; omega
  apply omv; rfl; rfl
  apply OL.nil
  exact At.again (i + 1) ⟨by omega, hrest⟩ (by omega) (by exact Sub.au) (fun w' hw' => hw')
 ·rw [List.drop_eq_nil_of_le (by omega), List.map_nil, which] at hrest
  refine W.xt ?_
  with_reducible apply At.next
  apply W.sr
  apply oas; rfl; rfl
  apply OL.nx
  apply W.ret
  ((with_reducible apply At.fin1); rfl; rfl; intro w' hw')
  exact ⟨by rw [← hrest], by (exact hw'.fr)⟩
end Go.Proofs.Ytleggdmhihcafaa.pt

/- The walk of the reference's ConOf. Conditions: none. -/
namespace Go.Proofs.Ytleggdmhihcafaa.pt
open Go.RowKit Go.Eng Go.Pt
set_option maxRecDepth 100000
theorem ConOf_calls (qd : Option Addr) (cd : Nat) (ds : List (Da × DY)) (nm : ByteArray) (d : Nat) (c : Co) (w : World) (hdl : ds.length ≤ 9223372036854775807) (hd : Arr datR w (low w) ds qd) (hc : conAt (ds.map Prod.fst) nm = some (d, c)) :
  Calls Try.prog 75 [.slice qd ds.length cd, .string nm].toArray w fun e w' => ∃ i : Int, e = .returned (.tuple #[.int .i64 (d : Int), .int .i64 i]) ∧ Ext w w' := by
 refine enter Try.func75 rfl Try.ntmps75 rfl (Cls.start w) ?_
 (simp only [argEnv, Nat.zero_add, Nat.reduceAdd])
 apply W.sr
 apply oas; rfl; rfl
 apply oas; rfl; rfl
 apply OL.nx
 apply W.seq
 apply W.sr
 apply omv; rfl; rfl
 apply oop; rfl; apply Pev.len_slice; rfl; exact yes; rfl
 apply omv; rfl; rfl
 apply OL.nx
 apply W.block
 refine W.loop (G := Nat) (fun k => k ≤ ds.length ∧ ∃ d', conAt ((ds.drop k).map Prod.fst) nm = some (d', c) ∧ k + d' = d) (fun k => ds.length - k)
  (fun k => [(1, true, .string nm), (10, true, .slice qd ds.length cd), (11, true, .int .i64 (ds.length : Int)), (12, true, .int .i64 (k : Int))])
  (fun k => Cls [] [w]) 0 ⟨Nat.zero_le _, d, hc, Nat.zero_add _⟩ (by exact Sub.au) (fun w' hw' => hw') ?_
 rintro k ⟨hk, d', hd', hkd⟩
 simp only at hk hd' hkd ⊢
 have hlt : k < ds.length := by
  refine Nat.lt_of_not_le fun hle => ?_
  rw [List.drop_eq_nil_of_le hle] at hd'
  cases hd'
 apply W.sr
 apply obn; rfl; rfl; rfl; apply Bin.lss
 apply OL.nx
 apply W.seq
 refine W.cond rfl (fun _ => ?_) (fun hb => by simp at hb; omega)
 obtain ⟨a, u, rfl, hab, hu, hcell, hok⟩ := hd.get hlt
 obtain ⟨⟨cs, hcs, hcsa⟩, hcl⟩ := hok
 have hcsl : cs.length = u.1.cons.length := by rw [← hcs, List.length_map]
 have hab : a.block < w.heap.size := hab
 have hcell : CellsAt w (a.add (k * 3)) [.string u.2.name, .int .i64 u.2.params, .slice u.2.q u.1.cons.length u.2.cap] := hcell
 have hdr : ds.drop k = u :: ds.drop (k + 1) := by
  rw [List.drop_eq_getElem_cons hlt]
  rw [List.getElem?_eq_getElem hlt] at hu
  rw [Option.some.inj hu]
 rw [hdr, List.map_cons, conAt] at hd'
 apply W.sk
 apply W.sb
 apply W.sr
 apply omv; rfl; rfl
 apply oop; rfl; apply Pev.idx; rfl; exact yes; rfl; exact yes; rfl; rfl; intro hcond; omega
 apply oop; rfl; apply Pev.load_keptA; rfl; exact yes; exact .head _; rfl; intro hcond; assumption; rfl; intro hcond; (rw [add_block]; assumption); intro hcond; exact NotOwned.au
 apply OL.alloc; rfl; rfl; exact CellsL.agg; (intro bk hbk; simp only [AllLe, and_true] at hbk)
 apply oas; rfl; rfl
 apply OL.storeB; rfl; rfl; exact CellsL.agg; rfl; rfl; rfl; exact Swap.au; exact Put.au
 apply OL.nsr
 apply ofa; rfl; rfl; rfl
 apply old; rfl; rfl; exact .head _; rfl; rfl
 apply oop; rfl; apply Pev.len_slice; rfl; exact yes; rfl
 apply omv; rfl; rfl
 apply OL.nx
 apply W.block
 revert bk
 intro b7 hb7
 refine W.loop (G := Nat) (fun j => j ≤ cs.length ∧ conIn ((cs.drop j).map Prod.fst) nm = conIn u.1.cons nm) (fun j => cs.length - j)
  (fun j => [(1, true, .string nm), (6, true, .int .i64 (k : Int)), (10, true, .slice (some a) ds.length cd), (11, true, .int .i64 (ds.length : Int)), (12, true, .int .i64 (k : Int)), (18, true, .slice u.2.q u.1.cons.length u.2.cap), (19, true, .int .i64 (u.1.cons.length : Int)), (20, true, .int .i64 (j : Int))])
  (fun j => Cls [] [w]) 0 ⟨Nat.zero_le _, by rw [List.drop_zero, hcs]⟩ (by exact Sub.au) (fun w' hw' => hw'.thin (by exact Thin.au)) ?_
 rintro j ⟨hj, hrest⟩
 simp only at hj hrest ⊢
 apply W.sr
 apply obn; rfl; rfl; rfl; apply Bin.lss
 apply OL.nx
 apply W.seq
 (refine W.cnd (fun hltj => ?_) (fun hltj => ?_)) <;> (try (exfalso; first | omega | exact hltj trivial | contradiction))
 ·obtain ⟨ac, v, hqc, habc, hv, hcellc, hokc⟩ := hcsa.get (show j < cs.length by omega)
  have habc : ac.block < w.heap.size := habc
  have hcellc : CellsAt w (ac.add (j * 2)) [.string v.1.name, .slice v.2.1 v.1.many v.2.2] := hcellc
  have hdr2 : cs.drop j = v :: cs.drop (j + 1) := by
   have hl : j < cs.length := by omega
   rw [List.drop_eq_getElem_cons hl]
   rw [List.getElem?_eq_getElem hl] at hv
   rw [Option.some.inj hv]
  rw [hdr2, List.map_cons] at hrest
  unfold conIn at hrest
  rw [List.find?_cons] at hrest
  rw [hqc]
  apply W.sk
  apply W.sb
  apply W.sr
  apply omv; rfl; rfl
  apply oop; rfl; apply Pev.idx; rfl; exact yes; rfl; exact yes; rfl; rfl; intro hcond; omega
  apply oop; rfl; apply Pev.load_keptA; rfl; exact yes; exact .head _; rfl; intro hcond; assumption; rfl; intro hcond; (rw [add_block]; assumption); intro hcond; exact NotOwned.au
  apply OL.alloc; rfl; rfl; exact CellsL.agg; (intro bk hbk; simp only [AllLe, and_true] at hbk)
  apply oas; rfl; rfl
  apply OL.storeB; rfl; rfl; exact CellsL.agg; rfl; rfl; rfl; exact Swap.au; exact Put.au
  apply OL.nsr
  apply ofa; rfl; rfl; rfl
  apply old; rfl; rfl; exact .head _; rfl; rfl
  apply omv; rfl; rfl
  apply obn; rfl; rfl; rfl; apply Bin.str_eql
  apply OL.nx
  refine W.cond rfl (fun hb => ?_) (fun hb => ?_)
  ·have hb : v.1.name = nm := of_decide_eq_true hb
   rw [decide_eq_true hb] at hrest
   have : conIn u.1.cons nm = some v.1 := hrest.symm
   rw [this] at hd'
   simp only [Option.some.injEq, Prod.mk.injEq] at hd'
   obtain ⟨h1, h2⟩ := hd'
   apply W.sr
   apply omv; rfl; rfl
   apply omv; rfl; rfl
   apply oas; rfl; rfl
   apply oas; rfl; rfl
   apply OL.nx
   refine W.rt ?_
   ((with_reducible apply At.fin2); rfl; rfl; rfl; intro w' hw')
   exact ⟨(j : Int), by rw [show k = d by omega], by (exact hw'.fr)⟩
  ·have hb : ¬ v.1.name = nm := of_decide_eq_false hb
   rw [decide_eq_false hb] at hrest
   apply W.skip
   with_reducible apply At.in_normal
   with_reducible apply At.next
   apply W.reg
   apply obn; rfl; rfl; rfl; apply Bin.add_in; omega
   apply omv; rfl; rfl
   apply OL.nil
   exact At.again (j + 1) ⟨by omega, hrest⟩ (by omega) (by exact Sub.au) (fun w' hw' => hw'.thin (by exact Thin.au))
 ·rw [List.drop_eq_nil_of_le (by omega)] at hrest
  have : conIn u.1.cons nm = none := hrest.symm
  rw [this] at hd'
  simp only at hd'
  obtain ⟨z, hz, hz2⟩ := Option.map_eq_some_iff.1 hd'
  obtain ⟨z1, z2⟩ := z
  simp only [Prod.mk.injEq] at hz2
  obtain ⟨rfl, rfl⟩ := hz2
  refine W.xt ?_
  with_reducible apply At.in_normal
  with_reducible apply At.next
  apply W.reg
  apply obn; rfl; rfl; rfl; apply Bin.add_in; omega
  apply omv; rfl; rfl
  apply OL.nil
  exact At.again (k + 1) ⟨by omega, z1, hz, by omega⟩ (by omega) (by exact Sub.au) (fun w' hw' => hw')
end Go.Proofs.Ytleggdmhihcafaa.pt

/- The walk of patterns' absent. Conditions: none. -/
namespace Go.Eng
open Go.RowKit
section
variable {P : Program} {n : Nm} {l : Env} {H : List Item} {S : List World} {ty : TypeId}
theorem At.finC1 {mm : Nat} {rr : Option Nat} {fn : Func} {R : Ending → World → Prop} {t1 tt b k : Nat} {v : Value} {t' : TypeId} {cs : List Value} (hr : fn.results = #[.cell tt ty, .tmp t1]) (h1 : look l t1 = some (true, v)) (ht : look l tt = some (true, .pointer (some ⟨b, 0, none⟩))) (hp : blk b t' cs ∈ H) (hs : aggN P ty = some k) (hk : cs.length = k)
  (h : ∀ w, Cls H S w → R (.returned (.tuple #[.agg cs.toArray, v])) w) : At ⟨mm, [], rr⟩ (bodyPost P fn R) .ret l (Cls H S) :=
 ⟨fun a w hs' hc => ⟨hs'.df, .tuple #[.agg cs.toArray, v], by
  have h0 := hs'.at_ t1 true _ h1
  have h1 := hs'.at_ tt true _ ht
  have h2 := run_loadVar_agg (P := P) (t := ty) (vs := cs) (a := ⟨b, 0, none⟩) (w := w) (by rw [hk]; exact hs) (fun j v hj => by rw [add_mid, Nat.zero_add, blk_cell (hc.item hp)]; exact hj)
  simp [results, hr, Array.getD_eq_getD_getElem?, h0, h1, asAddr, h2], h w hc⟩⟩
end
end Go.Eng
namespace Go.Proofs.Ytleggdmhihcafaa.pt
open Go.RowKit Go.Eng Go.Pt
set_option maxRecDepth 100000
theorem absent1_calls (p : Ty) (y : PY) (b : Nat) (n : Int) (w : World) (hc : w.cell? ⟨b, 0, none⟩ = some (.int .i64 n)) (hb : b < w.heap.size) :
  Calls Try.prog 73 [.agg (tyc p y).toArray, .pointer (some ⟨b, 0, none⟩)].toArray w fun e w' => e = .returned (.bool (decide (p.var = n))) ∧ Ext w w' := by
 refine enter Try.func73 rfl Try.ntmps73 rfl (Cls.start w) ?_
 (simp only [argEnv, Nat.zero_add, Nat.reduceAdd])
 simp only [tyc]
 apply W.sr
 apply OL.box; rfl; rfl; exact CellsL.agg; (intro bk hbk; simp only [AllLe, and_true] at hbk)
 apply oas; rfl; rfl
 apply OL.nsr
 apply ofa; rfl; rfl; rfl
 apply old; rfl; rfl; exact .head _; rfl; rfl
 apply oop; rfl; apply Pev.load_kept; rfl; exact yes; exact .head _; rfl; intro hcond; assumption; intro hcond; assumption; intro hcond; exact NotOwned.au
 apply obn; rfl; rfl; rfl; apply Bin.eql
 apply oas; rfl; rfl
 apply OL.nx
 apply W.ret
 ((with_reducible apply At.fin1); rfl; rfl; intro w' hw')
 exact ⟨rfl, by (exact hw'.fr)⟩
theorem absent2_calls (p : Ty) (y : PY) (b : Nat) (nm : ByteArray) (w : World) (hc : w.cell? ⟨b, 0, none⟩ = some (.string nm)) (hb : b < w.heap.size) :
  Calls Try.prog 74 [.agg (tyc p y).toArray, .pointer (some ⟨b, 0, none⟩)].toArray w fun e w' => e = .returned (.bool (decide (p.name = nm))) ∧ Ext w w' := by
 refine enter Try.func74 rfl Try.ntmps74 rfl (Cls.start w) ?_
 (simp only [argEnv, Nat.zero_add, Nat.reduceAdd])
 simp only [tyc]
 apply W.sr
 apply OL.box; rfl; rfl; exact CellsL.agg; (intro bk hbk; simp only [AllLe, and_true] at hbk)
 apply oas; rfl; rfl
 apply OL.nsr
 apply ofa; rfl; rfl; rfl
 apply old; rfl; rfl; exact .head _; rfl; rfl
 apply ofa; rfl; rfl; rfl
 apply oop; rfl; apply Pev.load_kept; rfl; exact yes; exact .head _; rfl; intro hcond; assumption; intro hcond; assumption; intro hcond; exact NotOwned.au
 apply obn; rfl; rfl; rfl; apply Bin.str_eql
 apply oas; rfl; rfl
 apply OL.nx
 apply W.ret
 ((with_reducible apply At.fin1); rfl; rfl; intro w' hw')
 exact ⟨rfl, by (exact hw'.fr)⟩
theorem any_mem (ps : List (Ty × PY)) (n : Int) : ((ps.map Prod.fst).any fun p => decide (p.var = n)) = decide (n ∈ ints (ps.map Prod.fst)) := by
 rw [Bool.eq_iff_iff, List.any_eq_true, decide_eq_true_eq]
 unfold ints
 rw [List.mem_map]
 constructor
 ·rintro ⟨p, h1, h2⟩
  exact ⟨p, h1, of_decide_eq_true h2⟩
 ·rintro ⟨p, h1, h2⟩
  exact ⟨p, h1, decide_eq_true h2⟩
theorem dat_at {T : TT} {w : World} (hT : T.ok w) {nm : ByteArray} {d : Nat} {c : Co} (hc : conAt T.D nm = some (d, c)) : ∃ (a : Addr) (u : Da × DY) (cs : List (Co × PY)), T.q = some a ∧ a.block < w.heap.size ∧ d < T.ds.length ∧ CellsAt w (a.add (d * 3)) [.string u.2.name, .int .i64 u.2.params, .slice u.2.q cs.length u.2.cap] ∧ consOf T.D d = cs.map Prod.fst ∧ Arr conR w (low w) cs u.2.q ∧ cs.length ≤ 9223372036854775807 := by
 have hm := (conAt_mem hc).1
 have hd : d < T.ds.length := by
  unfold consOf at hm
  cases hx : T.D[d]? with
  | none => rw [hx] at hm; cases hm
  | some x =>
   have := (List.getElem?_eq_some_iff.1 hx).1
   unfold TT.D at this
   rwa [List.length_map] at this
 obtain ⟨a, u, h1, h2, h3, h4, h5, h6⟩ := hT.arr.get hd
 obtain ⟨cs, h7, h8⟩ := h5
 have hl : u.1.cons.length = cs.length := by rw [← h7, List.length_map]
 refine ⟨a, u, cs, h1, h2, hd, ?_, ?_, h8, by omega⟩
 ·have h4 : CellsAt w (a.add (d * 3)) [.string u.2.name, .int .i64 u.2.params, .slice u.2.q u.1.cons.length u.2.cap] := h4
  rwa [hl] at h4
 ·unfold consOf TT.D
  rw [List.getElem?_map, h3]
  exact h7.symm
theorem top_le : ∀ (L : List Int), (∀ x ∈ L, x ≤ 1073741823) → top L ≤ 1073741825
 | [], _ => by simp [top]
 | x :: L, h => by
  have h1 := h x (.head _)
  have h2 := top_le L (fun y hy => h y (.tail _ hy))
  unfold top at h2 ⊢
  rw [List.foldr_cons]
  omega
theorem absent_calls (T : TT) (q : Option Addr) (cap : Nat) (ps : List (Ty × PY)) (w : World) (hT : T.ok w) (hlen : ps.length ≤ 1000000) (h : Arr tyR w (low w) ps q) (hw : ∀ p ∈ ps, Wf T.D p.1 ∧ free p.1 = false) (hkk : ∀ p ∈ ps, ∀ q ∈ ps, p.1.kind = q.1.kind) :
  Calls Try.prog 38 [T.v, .slice q ps.length cap].toArray w fun e w' => ∃ y, e = .returned (.tuple #[.agg (tyc ((absent T.D (ps.map Prod.fst)).getD anyT) y).toArray, .bool (absent T.D (ps.map Prod.fst)).isSome]) ∧ TyO w' (fresh w w') ((absent T.D (ps.map Prod.fst)).getD anyT) y ∧ Ext w w' := by
 refine enter Try.func38 rfl Try.ntmps38 rfl (Cls.start w) ?_
 unfold TT.v
 (simp only [argEnv, Nat.zero_add, Nat.reduceAdd])
 apply W.sr
 apply OL.box; rfl; rfl; exact CellsL.agg; (intro bk hbk; simp only [AllLe, and_true] at hbk)
 apply OL.alloc; rfl; rfl; exact CellsL.agg; (intro bk hbk; simp only [AllLe, and_true] at hbk)
 apply oas; rfl; rfl
 apply OL.nx
 apply W.seq
 apply W.sr
 apply omv; rfl; rfl
 apply oop; rfl; apply Pev.len_slice; rfl; exact yes; rfl
 apply obn; rfl; rfl; rfl; apply Bin.eql
 apply OL.nx
 rename_i b0 hb0
 revert bk
 intro b1 hb1
 (refine W.cnd (fun h0 => ?_) (fun h0 => ?_)) <;> (try (exfalso; first | omega | exact h0 trivial | contradiction))
 ·have hn : ps = [] := List.length_eq_zero_iff.1 (by omega)
  subst hn
  apply W.sr
  apply oop; rfl; apply Pev.build; rfl; exact CellsL.agg; rfl; exact Fill.au; rfl
  apply OL.storeB; rfl; rfl; exact CellsL.agg; rfl; rfl; rfl; exact Swap.au; exact Put.au
  apply oas; rfl; rfl
  apply OL.nx
  refine W.rt ?_
  refine At.finC1 rfl rfl rfl (by exact mau) rfl rfl (fun w' hw' => ⟨(none, 0), rfl, any_ok w' _, by (exact hw'.fr)⟩)
 obtain ⟨a, u, rfl, hab, hu, hcell, hok⟩ := h.get (i := 0) (by omega)
 obtain ⟨p0, rest, hps⟩ : ∃ p0 r, ps = p0 :: r := by
  cases ps with
  | nil => simp at h0
  | cons p r => exact ⟨p, r, rfl⟩
 have hu0 : u = p0 := by
  rw [hps] at hu
  simpa using hu.symm
 subst hu0
 have hab : a.block < w.heap.size := hab
 have hcell : CellsAt w (a.add (0 * 4)) [.int .i64 u.1.kind, .string u.1.name, .int .i64 u.1.var, .slice u.2.1 u.1.args.length u.2.2] := hcell
 obtain ⟨hwf, hnf⟩ := hw u (by rw [hps]; exact .head _)
 apply W.sk
 apply W.seq
 apply W.sr
 apply omv; rfl; rfl
 apply oop; rfl; apply Pev.idx; rfl; exact yes; rfl; exact yes; rfl; rfl; intro hcond; (simp only [Bool.and_eq_true, Bool.or_eq_true, Bool.not_eq_true', decide_eq_true_eq, decide_eq_false_iff_not] at *; omega)
 apply oop; rfl; apply Pev.fldA; rfl; exact yes; rfl
 apply oop; rfl; apply Pev.load_kept; rfl; exact yes; exact .head _; rfl; intro hcond; apply CellsAt.at_ (by assumption) rfl; intro hcond; assumption; intro hcond; exact NotOwned.au
 apply obn; rfl; rfl; rfl; apply Bin.eql
 apply OL.nx
 (refine W.cnd (fun h2 => ?_) (fun h2 => ?_)) <;> (try (exfalso; first | omega | exact h2 trivial | contradiction))
 ·have hab2 : absent T.D (ps.map Prod.fst) = some (.mk 2 ⟨#[]⟩ (least (ints (ps.map Prod.fst)) : Int) []) := by
   rw [hps, List.map_cons]
   simp only [absent]
   rw [if_pos h2]
  obtain ⟨L, hL⟩ : ∃ L, ints (ps.map Prod.fst) = L := ⟨_, rfl⟩
  have hmem := fun n => any_mem ps n
  have htop : top (ints (ps.map Prod.fst)) ≤ 1073741825 := top_le _ fun x hx => by
   obtain ⟨p, hp, rfl⟩ := List.mem_map.1 hx
   obtain ⟨z, hz, rfl⟩ := List.mem_map.1 hp
   have hzk : z.1.kind = 2 := by rw [hkk z hz u (by rw [hps]; exact .head _), h2]
   cases (hw z hz).1 with
   | fr h => rw [(hw z hz).2] at h; cases h
   | int _ h => exact h
   | con h _ _ _ => omega
  rw [hL] at hab2 htop
  rw [hab2]
  apply W.sr
  apply OL.alloc; rfl; rfl; exact CellsL.one rfl; (intro bk hbk; simp only [AllLe, and_true] at hbk)
  apply OL.storeB; rfl; rfl; exact CellsL.one rfl; rfl; rfl; rfl; exact Swap.au; exact Put.au
  apply OL.nx
  apply W.sb
  refine W.loop (G := Nat) (fun n => n ≤ top L ∧ goN L (top L - n) n = least L) (fun n => top L - n)
   (fun n => [(1, true, .slice (some a) ps.length cap), (4, true, .pointer (some ⟨b1, 0, none⟩)), (6, true, .pointer (some ⟨bk, 0, none⟩))])
   (fun n => Cls [blk bk 3 [.int .i64 (n : Int)], blk b1 50 [.int .i64 0, .string ⟨#[]⟩, .int .i64 0, .slice none 0 0], blk b0 55 [.slice T.q T.ds.length T.c, .map (some T.b)]] [w]) 0 ⟨Nat.zero_le _, rfl⟩ (by exact Sub.au) (fun w' hw' => hw') ?_
  rintro n ⟨hn1, hn2⟩
  apply W.seq
  apply W.sr
  apply omv; rfl; rfl
  apply oop; rfl; apply Pev.makeFunc; exact Args.au; exact Args.au
  (((first | (with_reducible apply OL.op) | (with_reducible apply QL.op)); (exact Guard.au); rfl; rfl); (refine Pev.call (v := .bool (decide ((n : Int) ∈ L))) (vs := [.slice (some a) ps.length cap, .func (.func 73) ([] : List Value).toArray [Value.pointer (some ⟨bk, 0, none⟩)].toArray]) rfl (by exact Args.au) (fun _ w2 hw2 => ?_)))
  ·have hb : (blk bk 3 [.int .i64 (n : Int)]).holds w2 := hw2.item (.head _)
   have hlt := hw2.lt _ (.head _) bk rfl
   have hc := ContainsFunc_calls (some a) cap ps 73 [] [.pointer (some ⟨bk, 0, none⟩)] (fun p => decide (p.var = (n : Int))) w2 (by omega) (h.at hw2 (by exact mau) (fun k hk => by exact NotOwned.au)) rfl (fun s hs w3 h3 => absent1_calls s.1 s.2 bk (n : Int) w3 (by rw [cell_heap (w := w2) (h3.block bk hlt id), blk_cell hb]; rfl) (Nat.lt_of_lt_of_le hlt h3.size))
   rw [hmem, hL] at hc
   exact hc.mono (fun e w3 h => ⟨h.1, hw2.ext h.2⟩)
  apply OL.nx
  refine W.cond rfl (fun hb => ?_) (fun hb => ?_)
  ·have hin : (n : Int) ∈ L := of_decide_eq_true hb
   have hlt : n < top L := Nat.lt_of_not_le (fun hle => top_no L n hle hin)
   have hstep : goN L (top L - (n + 1)) (n + 1) = least L := by
    rw [← hn2, show top L - n = (top L - (n + 1)) + 1 by omega, goN, if_pos hin]
   apply W.sk
   apply W.block
   apply W.reg
   apply old; rfl; rfl; exact .head _; rfl; rfl
   apply obn; rfl; rfl; rfl; apply Bin.add_in; omega
   apply OL.storeB; rfl; rfl; exact CellsL.one rfl; rfl; rfl; rfl; exact Swap.au; exact Put.au
   apply OL.nil
   with_reducible apply At.in_normal
   exact At.again (n + 1) ⟨by omega, hstep⟩ (by omega) (by exact Sub.au) (fun w' hw' => hw')
  ·have hin : (n : Int) ∉ L := of_decide_eq_false hb
   have hfin : least L = n := by
    rw [← hn2]
    cases top L - n with
    | zero => rfl
    | succ f => rw [goN, if_neg hin]
   rw [hfin]
   refine W.xt ?_
   with_reducible apply At.next
   apply W.sr
   apply old; rfl; rfl; exact .head _; rfl; rfl
   apply oop; rfl; apply Pev.build; rfl; exact CellsL.agg; rfl; exact Fill.au; rfl
   apply OL.storeB; rfl; rfl; exact CellsL.agg; rfl; rfl; rfl; exact Swap.au; exact Put.au
   apply oas; rfl; rfl
   apply OL.nx
   refine W.rt ?_
   refine At.finC1 rfl rfl rfl (by exact mau) rfl rfl (fun w' hw' => ⟨(none, 0), rfl, ?_, by (exact hw'.fr)⟩)
   exact TyO.of_parts (nm := ⟨#[]⟩) (ps := []) (by simp [I64]) (by simp only [I64]; omega) (by simp) (Nat.le_refl _) Arr.nil
 ·have hk3 : u.1.kind = 3 := (hwf.kinds hnf).resolve_left h2
  obtain ⟨d, c0, e1, e2, e3⟩ := hwf.cons hk3
  obtain ⟨ad, ud, cs, k1, k2, k3, k4, k5, k6, k7⟩ := dat_at hT e1
  obtain ⟨ix, hmg⟩ := hT.tab.con e1
  have habs : absent T.D (ps.map Prod.fst) = ((cs.map Prod.fst).find? fun c => !(ps.map Prod.fst).any fun q => decide (q.name = c.name)).map fun c => .mk 3 c.name 0 (anys c.many) := by
   rw [← k5, hps, List.map_cons]
   simp only [absent]
   rw [if_neg h2, e1]
  rw [k1]
  apply W.sk
  apply W.seq
  apply W.seq
  apply W.regd0; decide +kernel; kernel_rfl; decide +kernel; exact fun w hw => hw.drew
  apply qfa; rfl; rfl; rfl
  apply qld; rfl; rfl; exact .tail _ (.head _); rfl; rfl
  apply qfa; rfl; rfl; rfl
  apply qld; rfl; rfl; exact .tail _ (.head _); rfl; rfl
  apply qmv; rfl; rfl
  apply qop; rfl; apply Pev.idx; rfl; exact yes; rfl; exact yes; rfl; rfl; intro hcond; (simp only [Bool.and_eq_true, Bool.or_eq_true, Bool.not_eq_true', decide_eq_true_eq, decide_eq_false_iff_not] at *; omega)
  apply qop; rfl; apply Pev.fldA; rfl; exact yes; rfl
  apply qop; rfl; apply Pev.load_kept; rfl; exact yes; exact .head _; rfl; intro hcond; apply CellsAt.at_ (by assumption) rfl; intro hcond; assumption; intro hcond; exact NotOwned.au
  (((first | (with_reducible apply OL.op) | (with_reducible apply QL.op)); (exact Guard.au); rfl; rfl); (refine Pev.lookup_v (m := T.m) (v := .agg #[.int .i64 (d : Int), .int .i64 ix, .int .i64 (c0.many : Int)]) (zv := .agg #[.int .i64 0, .int .i64 0, .int .i64 0]) rfl (by (first | exact fun _ => rfl | exact fun h => h | (intro h; simp_all; done))) rfl (by (first | exact fun _ => rfl | exact fun h => h | (intro h; simp_all; done))) rfl rfl (fun w2 hw2 => (hT.at hw2 (by exact mau) (fun k hk => by exact NotOwned.au)).map_) (by rw [hmg]; rfl)))
  apply qop; rfl; apply Pev.field; rfl; exact yes; rfl; rfl
  apply qop; rfl; apply Pev.idx; rfl; exact yes; rfl; exact yes; rfl; rfl; intro hcond; omega
  apply qop; rfl; apply Pev.fldA; rfl; exact yes; rfl
  apply qop; rfl; apply Pev.load_kept; rfl; exact yes; exact .head _; rfl; intro hcond; apply CellsAt.at_ (by assumption) rfl; intro hcond; (simp only [add_block]; assumption); intro hcond; exact NotOwned.au
  apply qop; rfl; apply Pev.len_slice; rfl; exact yes; rfl
  apply qmv; rfl; rfl
  apply QL.nil
  with_reducible apply At.next
  apply W.block
  obtain ⟨occ, hocc⟩ : ∃ occ : Co → Bool, (fun c : Co => !(ps.map Prod.fst).any fun q => decide (q.name = c.name)) = occ := ⟨_, rfl⟩
  rw [hocc] at habs
  refine W.loop (G := Nat) (fun j => j ≤ cs.length ∧ ((cs.map Prod.fst).drop j).find? occ = (cs.map Prod.fst).find? occ) (fun j => cs.length - j)
   (fun j => [(1, true, .slice (some a) ps.length cap), (4, true, .pointer (some ⟨b1, 0, none⟩)), (37, true, .slice ud.2.q cs.length ud.2.cap), (38, true, .int .i64 (cs.length : Int)), (39, true, .int .i64 (j : Int))])
   (fun j => Cls [blk b1 50 [.int .i64 0, .string ⟨#[]⟩, .int .i64 0, .slice none 0 0]] [w]) 0 ⟨Nat.zero_le _, rfl⟩ (by exact Sub.au) (fun w' hw' => hw'.thin (by exact Thin.au)) ?_
  rintro j ⟨hj1, hj2⟩
  apply W.sr
  apply obn; rfl; rfl; rfl; apply Bin.lss
  apply OL.nx
  apply W.seq
  (refine W.cnd (fun hlt => ?_) (fun hlt => ?_)) <;> (try (exfalso; first | omega | exact hlt trivial | contradiction))
  ·obtain ⟨ac, uc, hq3, hab3, hu3, hcell3, hok3⟩ := k6.get (show j < cs.length by omega)
   have hab3 : ac.block < w.heap.size := hab3
   have hcell3 : CellsAt w (ac.add (j * 2)) [.string uc.1.name, .slice uc.2.1 uc.1.many uc.2.2] := hcell3
   have hok3 : uc.1.many * 56 ≤ 140737488355328 := hok3
   have hdr : (cs.map Prod.fst).drop j = uc.1 :: (cs.map Prod.fst).drop (j + 1) := by
    have hl : j < (cs.map Prod.fst).length := by rw [List.length_map]; omega
    rw [List.drop_eq_getElem_cons hl]
    congr 1
    rw [List.getElem_map]
    rw [List.getElem?_eq_getElem (by omega)] at hu3
    rw [Option.some.inj hu3]
   rw [hdr, List.find?_cons] at hj2
   have hov : occ uc.1 = !(ps.map Prod.fst).any fun q => decide (q.name = uc.1.name) := by rw [← hocc]
   rw [hq3]
   apply W.sk
   apply W.sb
   apply W.sr
   apply oop; rfl; apply Pev.idx; rfl; exact yes; rfl; exact yes; rfl; rfl; intro hcond; omega
   apply oop; rfl; apply Pev.load_keptA; rfl; exact yes; exact .head _; rfl; intro hcond; assumption; rfl; intro hcond; (rw [add_block]; assumption); intro hcond; exact NotOwned.au
   apply OL.alloc; rfl; rfl; exact CellsL.agg; (intro bk hbk; simp only [AllLe, and_true] at hbk)
   apply OL.storeB; rfl; rfl; exact CellsL.agg; rfl; rfl; rfl; exact Swap.au; exact Put.au
   apply OL.nsr
   apply omv; rfl; rfl
   apply oop; rfl; apply Pev.makeFunc; exact Args.au; exact Args.au
   (((first | (with_reducible apply OL.op) | (with_reducible apply QL.op)); (exact Guard.au); rfl; rfl); (refine Pev.call (v := .bool (!occ uc.1)) (vs := [.slice (some a) ps.length cap, .func (.func 74) ([] : List Value).toArray [Value.pointer (some ⟨bk, 0, none⟩)].toArray]) rfl (by exact Args.au) (fun _ w2 hw2 => ?_)))
   ·have hb : (blk bk 86 [.string uc.1.name, .slice uc.2.1 uc.1.many uc.2.2]).holds w2 := hw2.item (.head _)
    have hlt2 := hw2.lt _ (.head _) bk rfl
    have hc := ContainsFunc_calls (some a) cap ps 74 [] [.pointer (some ⟨bk, 0, none⟩)] (fun p => decide (p.name = uc.1.name)) w2 (by omega) (h.at hw2 (by exact mau) (fun k hk => by exact NotOwned.au)) rfl (fun s hs w3 h3 => absent2_calls s.1 s.2 bk uc.1.name w3 (by rw [cell_heap (w := w2) (h3.block bk hlt2 id), blk_cell hb]; rfl) (Nat.lt_of_lt_of_le hlt2 h3.size))
    rw [show ((ps.map Prod.fst).any fun p => decide (p.name = uc.1.name)) = !occ uc.1 by rw [hov, Bool.not_not]] at hc
    exact hc.mono (fun e w3 h => ⟨h.1, hw2.ext h.2⟩)
   apply oop; rfl; apply Pev.not; rfl; exact yes
   apply OL.nx
   refine W.cond rfl (fun hb => ?_) (fun hb => ?_)
   ·have ho : occ uc.1 = true := by simpa using hb
    rw [ho] at hj2
    have hres : absent T.D (ps.map Prod.fst) = some (.mk 3 uc.1.name 0 (anys uc.1.many)) := by rw [habs, ← hj2]; rfl
    rw [hres]
    apply W.seq
    (refine W.regz (by (repeat (first | exact ZSplit.nil | apply ZSplit.pure rfl | apply ZSplit.tail))) (by kernel_rfl) (by decide +kernel) (fun w hw => hw.drew) ?_)
    apply ZL.op rfl; exact Guard.none; rfl; rfl; apply Pev.fld; rfl; exact yes; rfl
    apply ZL.ld rfl; exact Guard.none; rfl; rfl; apply Pev.load_blk; rfl; exact yes; exact .head _; rfl; rfl
    apply ZL.op rfl; exact Guard.none; rfl; rfl; apply Pev.fld; rfl; exact yes; rfl
    apply ZL.ld rfl; exact Guard.none; rfl; rfl; apply Pev.load_blk; rfl; exact yes; exact .head _; rfl; rfl
    apply ZL.op rfl; exact Guard.none; rfl; rfl; apply Pev.len_slice; rfl; exact yes; rfl
    apply ZL.nil
    apply TL.one rfl
    refine OL.callE (α := Option Addr × Nat × Nat) (fun z => .slice z.1 uc.1.many uc.1.many) (fun z => w.heap.size ≤ z.2.1) (fun z => Cls (pile z.2.1 (fun k => k < z.2.2) [⟨z.1, uc.1.many, cat tyR.c (List.replicate uc.1.many (anyT, ((none, 0) : PY)))⟩] :: [blk bk 86 [.string uc.1.name, .slice uc.2.1 uc.1.many uc.2.2], blk b1 50 [.int .i64 0, .string ⟨#[]⟩, .int .i64 0, .slice none 0 0]]) [w]) rfl rfl (by exact Args.au) (fun w2 hw2 => (anys_calls uc.1.many w2 hok3).mono fun e w3 ⟨q, h1, h2, h3⟩ => ⟨(q, w2.heap.size, w3.heap.size), h1, (hw2.kp w (.head _)).size, Cls.fra hw2 h3 h2⟩) ?_
    rintro ⟨qa, Ba, ha⟩ hBa
    simp only at hBa ⊢
    apply OL.nil
    refine At.tk (fun w9 hw9 => hw9.thin (.any (fun k hk => ⟨Nat.le_trans hBa hk.1, trivial⟩) Thin.same)) ?_
    apply TL.one rfl
    apply oop; rfl; apply Pev.build; rfl; exact CellsL.agg; rfl; exact Fill.au; rfl
    apply OL.nil
    with_reducible apply At.tn; decide +kernel
    apply TL.one rfl
    apply OL.storeB; rfl; rfl; exact CellsL.agg; rfl; rfl; rfl; exact Swap.au; exact Put.au
    apply OL.nil
    with_reducible apply At.tn; decide +kernel
    apply TL.one rfl
    apply oas; rfl; rfl
    apply OL.nil
    with_reducible apply At.tn; decide +kernel
    apply TL.nil
    with_reducible apply At.np
    with_reducible apply At.next
    refine W.rt ?_
    refine At.finC1 rfl rfl rfl (.tail _ (.tail _ (.head _))) rfl rfl (fun w' hw' => ⟨(qa, uc.1.many), ?_, ?_, ?_⟩)
    ·show Ending.returned (.tuple #[.agg #[.int .i64 3, .string uc.1.name, .int .i64 0, .slice qa uc.1.many uc.1.many], .bool true]) = .returned (.tuple #[.agg #[.int .i64 3, .string uc.1.name, .int .i64 0, .slice qa (anys uc.1.many).length uc.1.many], .bool true])
     rw [anys_len]
    ·have harr : Arr tyR w' (fresh w w') (List.replicate uc.1.many (anyT, ((none, 0) : PY))) qa := ⟨fun hl => by
      obtain ⟨a4, g1, g2, g3⟩ := hw'.item (i := pile Ba (fun k => k < ha) [⟨qa, uc.1.many, cat tyR.c (List.replicate uc.1.many (anyT, ((none, 0) : PY)))⟩]) (.head _) _ (.head _) (by show 0 < (cat tyR.c _).length; rw [cat_length (f := tyR.c) tyR.clen]; exact Nat.mul_pos hl tyR.pos)
      exact ⟨a4, g1, ⟨Nat.le_trans hBa g2.1, hw'.lt _ (.head _) _ g2⟩, g3⟩, anyl_ok w' _ uc.1.many⟩
     have := TyO.of_parts (k := 3) (v := 0) (nm := uc.1.name) (cap := uc.1.many) (by simp [I64]) (by simp [I64]) (by rw [List.length_replicate]; omega) (by rw [List.length_replicate]; exact Nat.le_refl _) harr
     rw [anyl_map] at this
     exact this
    ·exact hw'.toExt (s := w) (.head _) (fun k hk => NotOwned.pile (by omega) (NotOwned.blk (by omega) (NotOwned.blk (by omega) .nil)))
   ·have ho : occ uc.1 = false := by simpa using hb
    rw [ho] at hj2
    apply W.skip
    with_reducible apply At.in_normal
    with_reducible apply At.next
    apply W.reg
    apply obn; rfl; rfl; rfl; apply Bin.add_in; omega
    apply omv; rfl; rfl
    apply OL.nil
    exact At.again (j + 1) ⟨by omega, hj2⟩ (by omega) (by exact Sub.au) (fun w' hw' => hw'.thin (by exact Thin.au))
  ·rw [List.drop_eq_nil_of_le (by rw [List.length_map]; omega), List.find?_nil] at hj2
   have hres : absent T.D (ps.map Prod.fst) = none := by rw [habs, ← hj2]; rfl
   rw [hres]
   refine W.xt ?_
   with_reducible apply At.next
   apply W.sr
   apply oop; rfl; apply Pev.build; rfl; exact CellsL.agg; rfl; exact Fill.au; rfl
   apply OL.storeB; rfl; rfl; exact CellsL.agg; rfl; rfl; rfl; exact Swap.au; exact Put.au
   apply oas; rfl; rfl
   apply OL.nx
   apply W.ret
   refine At.finC1 rfl rfl rfl (by exact mau) rfl rfl (fun w' hw' => ⟨(none, 0), rfl, any_ok w' _, by (exact hw'.fr)⟩)
end Go.Proofs.Ytleggdmhihcafaa.pt

/- Append onto a full slice that reads (a new row), and onto a slice that is a block of the call's own. General. No condition. -/
namespace Go.Eng
open Go.RowKit
section
variable {P : Program} {n : Nm} {l : Env} {H : List Item} {S : List World} {C : World → Prop} {ty : TypeId} {pos : String} {af : Array Edge}
variable {ops : Array Oper} {rest : List Oper} {Q : Exit → Act → World → Prop} {t : TypeId} {x y : Operand}
theorem Hole.at {p : Nat} {i : Item} {F : Item → List Item} (h : Hole p H i F) (j : Item) : Hole p (F j) j F := by
 induction h with
 | z => exact Hole.z
 | s _ ih => exact Hole.s ih
theorem Cls.blk_row_at {p b base m sz : Nat} {e : TypeId} {cs : List Value} {w : World} {F : Item → List Item} (hh : Hole p H (blk b e cs) F) (h : Cls H S w) (hb : base ≤ b) (hl : cs.length = m * sz) (hm : m ≤ maxLen) :
  Cls (F (row base (fun k => k = b) (some ⟨b, 0, none⟩) m m e sz cs)) S w := by
 obtain ⟨h1, h2⟩ := hh.eq
 rw [h2]
 have hmem := List.mem_of_getElem? h1
 have h0 : (blk b e cs).holds w := h.holds _ hmem
 refine h.turn p h1 (Keep.refl _ _) ⟨fun a ha => by cases ha; rfl, hl, .inr ⟨b, m, cs.toArray, rfl, hb, h0, Nat.le_refl _, hm, by simpa using hl, List.take_of_length_le (by simp [hl])⟩⟩ (fun k hk => ?_) (fun k hk => ?_)
 ·exact ⟨.inl hk.2, h.lt _ hmem k hk.2⟩
 ·have hk' : k = b := hk
  exact ⟨by rw [hk']; exact hb, hk'⟩
theorem OL.appendB {F : Item → List Item} {e : TypeId} {dd sz bb p m cap2 m2 base b : Nat} {q2 : Option Addr} {cs news : List Value}
  (hx : evl l x = some (true, .slice (some ⟨b, 0, none⟩) m m)) (hy : evl l y = some (true, .slice q2 m2 cap2)) (hn : Nat.ble (dd + 1) n.n = true)
  (hu : rowElem P t = some (e, sz, bb)) (hp' : Hole p H (blk b e cs) F) (hb : base ≤ b) (hlc : cs.length = m * sz) (hsl : ∀ w, Cls (F (row base (fun k => k = b) (some ⟨b, 0, none⟩) m m e sz cs)) S w → SlAt w w.heap.size q2 news) (hl : news.length = m2 * sz) (h1 : oneL news = true)
  (hs : ∃ s ∈ S, base ≤ s.heap.size) (hlim : (m + m2) ≤ 9223372036854775807 ∧ (m + m2) * bb ≤ 140737488355328)
  (k : ∀ (O' : Nat → Prop) (q' : Option Addr) (cap' : Nat), OL P n ops Q rest ((dd, true, .slice q' (m + m2) cap') :: l) (Cls (F (row base O' q' (m + m2) cap' e sz (cs ++ news))) S)) :
  OL P n ops Q (⟨some dd, .call { callee := .builtin .append, args := #[x, y], argTypes := #[t, t] }, ty, pos, af, none⟩ :: rest) l (Cls H S) := by
 refine OL.cls (C' := Cls (F (row base (fun k => k = b) (some ⟨b, 0, none⟩) m m e sz cs)) S) (fun w hw => hw.blk_row_at hp' hb hlc (by simp only [maxLen]; omega)) ?_
 exact OL.appendK hx hy hn hu (hp'.at _) hsl hl h1 hs hlim k
theorem OL.appendF {F : Item → List Item} {e : TypeId} {dd sz bb p m cap2 m2 base : Nat} {q q2 : Option Addr} {xs news : List Value}
  (hx : evl l x = some (true, .slice q m m)) (hy : evl l y = some (true, .slice q2 m2 cap2)) (hn : Nat.ble (dd + 1) n.n = true)
  (hu : rowElem P t = some (e, sz, bb)) (hp' : Hole p H nothing F) (hsx : ∀ w, Cls H S w → SlAt w w.heap.size q xs) (hlx : xs.length = m * sz) (hsl : ∀ w, Cls H S w → SlAt w w.heap.size q2 news) (hl : news.length = m2 * sz) (h1 : oneL news = true) (hpos : 0 < m2)
  (hs : ∃ s ∈ S, base ≤ s.heap.size) (hlim : (m + m2) ≤ 9223372036854775807 ∧ (m + m2) * bb ≤ 140737488355328) (hq0 : q = none → m = 0)
  (k : ∀ (O' : Nat → Prop) (q' : Option Addr) (cap' : Nat), OL P n ops Q rest ((dd, true, .slice q' (m + m2) cap') :: l) (Cls (F (row base O' q' (m + m2) cap' e sz (xs ++ news))) S)) :
  OL P n ops Q (⟨some dd, .call { callee := .builtin .append, args := #[x, y], argTypes := #[t, t] }, ty, pos, af, none⟩ :: rest) l (Cls H S) := by
 refine OL.newT (α := (Nat → Prop) × Option Addr × Nat) (C' := fun r w => Cls (F (row base r.1 r.2.1 (m + m2) r.2.2 e sz (xs ++ news))) S w) rfl rfl hn (fun r => .slice r.2.1 (m + m2) r.2.2) (fun a w hs' hc => ?_) (fun r => k r.1 r.2.1 r.2.2)
 obtain ⟨i, z, g1, g2, g3, g4, g5, g6, g7⟩ := rowElem_spec hu
 obtain ⟨s, hsm, hsb⟩ := hs
 have hbw : base ≤ w.heap.size := Nat.le_trans hsb (hc.kp s hsm).size
 have hnl : 0 < news.length := by rw [hl]; exact Nat.mul_pos hpos g7
 obtain ⟨ad, rfl, _, hca⟩ := hsl w hc hnl
 have hnews : ∀ j u, news[j]? = some u → w.cell? (ad.add j) = some u := fun j u hj => hca j u hj
 have key : ∃ v' w', (Builtin.append_ #[t, t] ty #[.slice q m m, .slice (some ad) m2 cap2]).run P w = .ok v' w' ∧ w'.ownsRow w.heap.size e sz v' (m + m2) (xs ++ news) ∧ w.grownBy w' none := by
  cases q with
  | none =>
   have hm := hq0 rfl
   subst hm
   have hxs : xs = [] := List.eq_nil_of_length_eq_zero (by omega)
   subst hxs
   obtain ⟨v', w', hr, h2, h3, h4, h5⟩ := run_append_own_at (P := P) (w := w) w.heap.size t ty e i z sz bb g1 g2 g3 g4 g5 g6 g7 (.slice none 0 0) 0 [] ⟨by simp, .inl ⟨rfl, rfl⟩⟩ ad m2 cap2 news hl hnews (fun u hu => oneL_mem h1 u hu) (by simp only [maxLen]; omega) hlim.2 (Nat.le_refl _)
   exact ⟨v', w', hr, h2, h3⟩
  | some ax =>
   have holds : ∀ j u, xs[j]? = some u → w.cell? (ax.add j) = some u := fun j u hj => by
    obtain ⟨a2, e2, _, hc2⟩ := hsx w hc (by have := (List.getElem?_eq_some_iff.1 hj).1; omega)
    obtain rfl := Option.some.inj e2
    exact hc2 j u hj
   exact run_append_arg_grows (P := P) (w := w) t ty e i z sz bb g1 g2 g3 g4 g5 g6 g7 ax m m xs hlx holds ad m2 cap2 news hl hnews (by omega) (by simp only [maxLen]; omega) hlim.2
 obtain ⟨v', w', hr, h2, h3⟩ := key
 have hext : Ext w w' := ⟨h3.os, h3.tape, h3.output, h3.size, fun k hk hn => h3.block k hk (fun h => by cases h)⟩
 rcases h2.2 with ⟨_, h0⟩ | ⟨g', cap', cur, rfl, hb', hg', hrest⟩
 ·omega
 ·refine ⟨(fun k => k = g', some ⟨g', 0, none⟩, cap'), w', ?_, ?_⟩
  ·simp only [execOp, resolve, invoke, builtin, Sem.run_bind, Sem.run_pure, Result.andThen_ok, List.map_toArray, List.map_cons, List.map_nil, hs'.eval hx rfl, hs'.eval hy rfl, hr]
  ·refine Cls.fill hp' (hc.add hext _ ⟨fun a ha => by cases ha; rfl, h2.1, .inr ⟨g', cap', cur, rfl, Nat.le_trans hbw hb', hg', hrest⟩⟩ (fun k hk => ?_))
   have hk' : k = g' := hk.2
   rw [hk']
   exact ⟨hb', (Array.getElem?_eq_some_iff.1 hg').1⟩
end
end Go.Eng

/- A drawn region with calls one behind another and operations without memory between and behind them. General. No condition. -/
namespace Go.Eng
open Go.RowKit
def wpM (P : Program) (ops : Array Oper) (C0 : World → Prop) (need : Nat → Bool) (Q : Exit → Act → World → Prop) : List (Bool × Nat × Oper) → Act → World → Prop
 | [], a, w => Q .normal a w
 | (true, _, o) :: r, a, w => ∃ v, YieldsZ P ops C0 o v a ∧ wpM P ops C0 need Q r (a.put o.dst v) w
 | (false, k, _) :: r, a, w => wpOp P ops Q k (fun a' w' => (need k = true → C0 w') ∧ wpM P ops C0 need Q r a' w') a w
def seqM (ops : Array Oper) : List (Bool × Nat) → Array Bool → Bool
 | [], li => (Region.ready .any ops li).isEmpty
 | (true, k) :: t, li => (Region.ready .any ops li).contains k && (freeZ ops li k && seqM ops t (li.setIfInBounds k true))
 | (false, k) :: t, li => (Region.ready .any ops li == [k]) && seqM ops t (li.setIfInBounds k true)
def mB (ops : Array Oper) (xi : List Nat) (yi : List (Bool × Nat)) : Bool := Region.noSelect ops && (preZ ops xi (Array.replicate ops.size false) && seqM ops yi (runZ xi (Array.replicate ops.size false)))
inductive Tag : List (Nat × Oper) → List (Bool × Nat × Oper) → Prop where
 | nil : Tag [] []
 | pu {k : Nat} {o : Oper} {r : List (Nat × Oper)} {r' : List (Bool × Nat × Oper)} (hp : (pureB o && !depB o) = true) (h : Tag r r') : Tag ((k, o) :: r) ((true, k, o) :: r')
 | ef {k : Nat} {o : Oper} {r : List (Nat × Oper)} {r' : List (Bool × Nat × Oper)} (h : Tag r r') : Tag ((k, o) :: r) ((false, k, o) :: r')
theorem Tag.spec {y : List (Nat × Oper)} {y' : List (Bool × Nat × Oper)} (h : Tag y y') : y'.map (·.2) = y ∧ y'.length = y.length ∧ ∀ p ∈ y', p.1 = true → depB p.2.2 = false := by
 induction h with
 | nil => exact ⟨rfl, rfl, fun p hp => by cases hp⟩
 | pu hp h ih =>
  simp only [Bool.and_eq_true, Bool.not_eq_true'] at hp
  refine ⟨by rw [List.map_cons, ih.1], by rw [List.length_cons, List.length_cons, ih.2.1], fun p hpm => ?_⟩
  rcases List.mem_cons.1 hpm with rfl | hpm
  ·exact fun _ => hp.2
  ·exact ih.2.2 p hpm
 | ef h ih =>
  refine ⟨by rw [List.map_cons, ih.1], by rw [List.length_cons, List.length_cons, ih.2.1], fun p hpm => ?_⟩
  rcases List.mem_cons.1 hpm with rfl | hpm
  ·exact fun h => by cases h
  ·exact ih.2.2 p hpm
section
variable {P : Program} {ops : Array Oper} {C0 : World → Prop} {Q : Exit → Act → World → Prop}
theorem wpZ_mix {need : Nat → Bool} (hs : Region.noSelect ops = true) (hQ : ∀ c a w, ¬ Q (.panic c) a w) : ∀ (y : List (Bool × Nat × Oper)) (li : Array Bool) (a : Act) (w : World), (∀ p ∈ y, ops[p.2.1]? = some p.2.2 ∧ (p.1 = true → depB p.2.2 = false)) → Dn ops li → seqM ops (y.map fun p => (p.1, p.2.1)) li = true → wpM P ops C0 need Q y a w → wpZ P ops C0 need Q y.length li a w
 | [], li, a, w, _, _, hB, h => ⟨by simpa [seqM] using hB, h⟩
 | (true, k, o) :: r, li, a, w, hy, hD, hB, h => by
  simp only [List.map_cons, seqM, Bool.and_eq_true] at hB
  obtain ⟨hr, hf, hB'⟩ := hB
  have hr' : k ∈ Region.ready .any ops li := by simpa using hr
  obtain ⟨v, hv, h2⟩ := h
  obtain ⟨hi, hd⟩ := hy _ (.head _)
  have hd : depB o = false := hd rfl
  exact wpZ_first hi (Region.noSelect_spec hs) hQ _ li a w hD (fun j oj hj hne hun hno => ⟨(freeZ_spec hi (List.mem_singleton.2 rfl) hf j oj hj hne hun hno).1, fun e => by rw [hd] at e; cases e⟩) hr' hv (fun e => by rw [hd] at e; cases e)
   (wpZ_mix hs hQ r _ _ w (fun p hp => hy p (.tail _ hp)) (hD.set hr') hB' h2)
 | (false, k, o) :: r, li, a, w, hy, hD, hB, h => by
  simp only [List.map_cons, seqM, Bool.and_eq_true, beq_iff_eq] at hB
  refine ⟨fun h' => (by rw [hB.1] at h'; cases h'), fun i hi => ?_⟩
  have hi' := hi
  rw [hB.1, List.mem_singleton] at hi
  subst hi
  exact wpOp_mono (fun a' w' h3 => ⟨fun hn _ => h3.1 hn, wpZ_mix hs hQ r _ a' w' (fun p hp => hy p (.tail _ hp)) (hD.set hi') hB.2 h3.2⟩) h
end
structure TM (P : Program) (n : Nm) (ops : Array Oper) (C0 : World → Prop) (need : Nat → Bool) (Q : Exit → Act → World → Prop) (y : List (Bool × Nat × Oper)) (l : Env) (C : World → Prop) : Prop where
 run : ∀ a w, Sees n l a → C w → wpM P ops C0 need Q y a w
def TQm (P : Program) (ops : Array Oper) (C0 : World → Prop) (need : Nat → Bool) (k : Nat) (r : List (Bool × Nat × Oper)) (Q : Exit → Act → World → Prop) : Exit → Act → World → Prop := fun e a w => match e with
 | .normal => (need k = true → C0 w) ∧ wpM P ops C0 need Q r a w
 | e => Q e a w
section
variable {P : Program} {n : Nm} {l : Env} {C C0 : World → Prop} {ops : Array Oper} {Q : Exit → Act → World → Prop} {K : Act → Prop} {o : Oper} {k : Nat} {x y : List (Nat × Oper)} {y' r : List (Bool × Nat × Oper)} {need : Nat → Bool}
theorem W.regm {id : Nat} {l0 : List Oper} (hs : ZSplit 0 [] l0 x y) (ht : Tag y y') (hm : P.follows .mixedOrders = true) (hB : mB l0.toArray (x.map (·.1)) (y'.map fun p => (p.1, p.2.1)) = true) (hC : ∀ w, C w → C { w with drawn := w.drawn + 1 })
  (h : ZL P n l0.toArray C (fun a' => ∀ w', C w' → wpM P l0.toArray C (needZ l0.toArray (x.map (·.1))) (NoPanic Q) y' a' w') x l) : W P n (.region id l0.toArray true) Q l C := ⟨fun a w hs' hc => by
 simp only [mB, Bool.and_eq_true] at hB
 obtain ⟨h1, h2, h3⟩ := hB
 obtain ⟨hx, hy, hlen⟩ := hs.spec
 obtain ⟨t1, t2, t3⟩ := ht.spec
 have hy' : ∀ p ∈ y', l0.toArray[p.2.1]? = some p.2.2 ∧ (p.1 = true → depB p.2.2 = false) := fun p hp => ⟨by
  have := (hy p.2 (by rw [← t1]; exact List.mem_map_of_mem hp)).2
  simpa using this, t3 p hp⟩
 have hQ : ∀ c a w, ¬ NoPanic Q (.panic c) a w := fun _ _ _ h => h
 refine wpp_region_any hm (wpAny_np _ _ _ _ (wpAny_of_Z (C0 := C) (need := needZ l0.toArray (x.map (·.1))) _ _ _ _ ?_))
 have hD0 : Dn l0.toArray (Array.replicate l0.toArray.size false) := fun j o _ hj => by rw [getD_rep] at hj; cases hj
 have hD1 : ∀ (x : List (Nat × Oper)) (li : Array Bool), Dn l0.toArray li → preZ l0.toArray (x.map (·.1)) li = true → Dn l0.toArray (runZ (x.map (·.1)) li) := fun x => by
  induction x with
  | nil => exact fun li h _ => h
  | cons p x ih =>
   intro li h hp
   simp only [List.map_cons, preZ, Bool.and_eq_true] at hp
   exact ih _ (h.set (by simpa using hp.1)) hp.2.2
 have key := wpZ_pre (P := P) (ops := l0.toArray) (C0 := C) (Q := NoPanic Q) (xi0 := x.map (·.1)) (f := y'.length) (w := { w with drawn := w.drawn + 1 }) h1 hQ (hC w hc) x (Array.replicate l0.toArray.size false) a
  (fun p hp => ⟨List.mem_map.2 ⟨p, hp, rfl⟩, by have := (hx p hp).2.1; simpa using this⟩) hD0 h2 (h.run a hs')
  (fun a' hK => wpZ_mix h1 hQ y' _ a' _ hy' (hD1 x _ hD0 h2) h3 (hK _ (hC w hc)))
 have e : x.length + y'.length = l0.toArray.size := by rw [t2]; simpa using hlen
 exact (congrArg (fun s => wpZ P l0.toArray C (needZ l0.toArray (x.map (·.1))) (NoPanic Q) s (Array.replicate l0.toArray.size false) a { w with drawn := w.drawn + 1 }) e).mp key⟩
theorem ZL.nilM (h : TM P n ops C0 need Q y' l C0) : ZL P n ops C0 (fun a' => ∀ w', C0 w' → wpM P ops C0 need Q y' a' w') [] l := ⟨fun a hs w hc => h.run a w hs hc⟩
theorem TM.nil (h : At n Q .normal l C) : TM P n ops C0 need Q [] l C := ⟨fun a w hs hc => h.run a w hs hc⟩
theorem TM.pure {d : Nat} {c : Bool} {v : Value} (hp : pureB o = true) (hg : Guard l ops o.guard c) (hd : o.dst = some d) (hn : Nat.ble (d + 1) n.n = true) (hv : Pev P n l (fun _ => True) o c v)
  (kk : TM P n ops C0 need Q r ((d, c, v) :: l) C) : TM P n ops C0 need Q ((true, k, o) :: r) l C := by
 have hn' := Nat.le_of_ble_eq_true hn
 refine ⟨fun a w hs hc => ?_⟩
 have hw := hg.wanted hs
 cases c with
 | true => exact ⟨v, .inl ⟨hw, fun w _ => still_of hp (hv.run rfl a w hs trivial)⟩, by rw [hd]; exact kk.run _ w (hs.put hn' true v) hc⟩
 | false => exact ⟨undef, .inr ⟨hw, rfl⟩, by rw [hd]; exact kk.run _ w (hs.put hn' false v) hc⟩
theorem TM.one (hi : ops[k]? = some o) (h : OL P n ops (TQm P ops C0 need k r Q) [o] l C) : TM P n ops C0 need Q ((false, k, o) :: r) l C := ⟨fun a w hs hc => by
 have hp : ∀ ex a w, ex ≠ .normal → TQm P ops C0 need k r Q ex a w → Q ex a w := fun ex a w hne h => by
  cases ex <;> first | exact h | exact absurd rfl hne
 have h := h.run a w hs hc
 show wpOp P ops Q k _ a w
 unfold wpOp
 simp only [hi]
 unfold wpList at h
 split
 ·rename_i hw
  rw [if_pos hw] at h
  rcases h with h | ⟨h, a', w', hq⟩
  ·refine .inl ?_
   unfold Oper.wp at h ⊢
   exact upon_Q hp h
  ·exact .inr ⟨h, a', w', hp _ _ _ (by simp) hq⟩
 ·rename_i hw
  rw [if_neg hw] at h
  exact h⟩
theorem At.tnm (hk : need k = false) (h : TM P n ops C0 need Q r l C) : At n (TQm P ops C0 need k r Q) .normal l C := ⟨fun a w hs hc => ⟨fun h' => (by rw [hk] at h'; cases h'), h.run a w hs hc⟩⟩
theorem At.tkm (hk : ∀ w, C w → C0 w) (h : TM P n ops C0 need Q r l C) : At n (TQm P ops C0 need k r Q) .normal l C := ⟨fun a w hs hc => ⟨fun _ => hk w hc, h.run a w hs hc⟩⟩
end
/-! by a plan: pure operations, operations with effects, two of which either may be first -/
inductive PT where
 | nil
 | pu (k : Nat) (r : PT)
 | ef (k : Nat) (r : PT)
 | fk (k1 : Nat) (r1 : PT) (k2 : Nat) (r2 : PT)
def PT.len : PT → Nat
 | .nil => 0
 | .pu _ r => r.len + 1
 | .ef _ r => r.len + 1
 | .fk _ r1 _ _ => r1.len + 1
def wpN (P : Program) (ops : Array Oper) (C0 : World → Prop) (need : Nat → Bool) (Q : Exit → Act → World → Prop) : PT → Act → World → Prop
 | .nil, a, w => Q .normal a w
 | .pu k r, a, w => ∃ o v, ops[k]? = some o ∧ depB o = false ∧ YieldsZ P ops C0 o v a ∧ wpN P ops C0 need Q r (a.put o.dst v) w
 | .ef k r, a, w => wpOp P ops Q k (fun a' w' => (need k = true → C0 w') ∧ wpN P ops C0 need Q r a' w') a w
 | .fk k1 r1 k2 r2, a, w => wpOp P ops Q k1 (fun a' w' => (need k1 = true → C0 w') ∧ wpN P ops C0 need Q r1 a' w') a w ∧ wpOp P ops Q k2 (fun a' w' => (need k2 = true → C0 w') ∧ wpN P ops C0 need Q r2 a' w') a w
def seqN (ops : Array Oper) : PT → Array Bool → Bool
 | .nil, li => (Region.ready .any ops li).isEmpty
 | .pu k r, li => (Region.ready .any ops li).contains k && (freeZ ops li k && seqN ops r (li.setIfInBounds k true))
 | .ef k r, li => (Region.ready .any ops li == [k]) && seqN ops r (li.setIfInBounds k true)
 | .fk k1 r1 k2 r2, li => (Region.ready .any ops li == [k1, k2]) && (Nat.beq r1.len r2.len && (seqN ops r1 (li.setIfInBounds k1 true) && seqN ops r2 (li.setIfInBounds k2 true)))
def nB (ops : Array Oper) (xi : List Nat) (p : PT) : Bool := Region.noSelect ops && (Nat.beq (xi.length + p.len) ops.size && (preZ ops xi (Array.replicate ops.size false) && seqN ops p (runZ xi (Array.replicate ops.size false))))
section
variable {P : Program} {ops : Array Oper} {C0 : World → Prop} {Q : Exit → Act → World → Prop}
theorem wpZ_plan {need : Nat → Bool} (hs : Region.noSelect ops = true) (hQ : ∀ c a w, ¬ Q (.panic c) a w) : ∀ (y : PT) (li : Array Bool) (a : Act) (w : World), Dn ops li → seqN ops y li = true → wpN P ops C0 need Q y a w → wpZ P ops C0 need Q y.len li a w
 | .nil, li, a, w, _, hB, h => ⟨by simpa [seqN] using hB, h⟩
 | .pu k r, li, a, w, hD, hB, h => by
  simp only [seqN, Bool.and_eq_true] at hB
  obtain ⟨hr, hf, hB'⟩ := hB
  have hr' : k ∈ Region.ready .any ops li := by simpa using hr
  obtain ⟨o, v, hi, hd, hv, h2⟩ := h
  exact wpZ_first hi (Region.noSelect_spec hs) hQ _ li a w hD (fun j oj hj hne hun hno => ⟨(freeZ_spec hi (List.mem_singleton.2 rfl) hf j oj hj hne hun hno).1, fun e => by rw [hd] at e; cases e⟩) hr' hv (fun e => by rw [hd] at e; cases e)
   (wpZ_plan hs hQ r _ _ w (hD.set hr') hB' h2)
 | .ef k r, li, a, w, hD, hB, h => by
  simp only [seqN, Bool.and_eq_true, beq_iff_eq] at hB
  refine ⟨fun h' => (by rw [hB.1] at h'; cases h'), fun i hi => ?_⟩
  have hi' := hi
  rw [hB.1, List.mem_singleton] at hi
  subst hi
  exact wpOp_mono (fun a' w' h3 => ⟨fun hn _ => h3.1 hn, wpZ_plan hs hQ r _ a' w' (hD.set hi') hB.2 h3.2⟩) h
 | .fk k1 r1 k2 r2, li, a, w, hD, hB, h => by
  simp only [seqN, Bool.and_eq_true, beq_iff_eq] at hB
  obtain ⟨hr, hl, hB1, hB2⟩ := hB
  have hl : r1.len = r2.len := Nat.eq_of_beq_eq_true hl
  refine ⟨fun h' => (by rw [hr] at h'; cases h'), fun i hi => ?_⟩
  have hi' := hi
  rw [hr] at hi
  rcases List.mem_cons.1 hi with rfl | hi
  ·exact wpOp_mono (fun a' w' h3 => ⟨fun hn _ => h3.1 hn, wpZ_plan hs hQ r1 _ a' w' (hD.set hi') hB1 h3.2⟩) h.1
  ·rw [List.mem_singleton] at hi
   subst hi
   exact wpOp_mono (fun a' w' h3 => ⟨fun hn _ => h3.1 hn, by
    have := wpZ_plan hs hQ r2 _ a' w' (hD.set hi') hB2 h3.2
    show wpZ P ops C0 need Q r1.len _ a' w'
    rw [hl]
    exact this⟩) h.2
end
def Has (ops : Array Oper) (y : List (Nat × Oper)) : Prop := ∀ p ∈ y, ops[p.1]? = some p.2
def findK : List (Nat × Oper) → Nat → Option Oper
 | [], _ => none
 | (k', o) :: r, k => match Nat.beq k' k with
  | true => some o
  | false => findK r k
theorem Has.find {ops : Array Oper} {k : Nat} {o : Oper} : ∀ {y : List (Nat × Oper)}, Has ops y → findK y k = some o → ops[k]? = some o
 | (k', o') :: r, hy, h => by
  unfold findK at h
  cases hb : Nat.beq k' k with
  | true =>
   rw [hb] at h
   cases h
   have := hy _ (.head _)
   rwa [Nat.eq_of_beq_eq_true hb] at this
  | false =>
   rw [hb] at h
   exact Has.find (y := r) (fun p hp => hy p (.tail _ hp)) h
structure TN (P : Program) (n : Nm) (ops : Array Oper) (C0 : World → Prop) (need : Nat → Bool) (Q : Exit → Act → World → Prop) (y : PT) (l : Env) (C : World → Prop) : Prop where
 run : ∀ a w, Sees n l a → C w → wpN P ops C0 need Q y a w
def TQn (P : Program) (ops : Array Oper) (C0 : World → Prop) (need : Nat → Bool) (k : Nat) (r : PT) (Q : Exit → Act → World → Prop) : Exit → Act → World → Prop := fun e a w => match e with
 | .normal => (need k = true → C0 w) ∧ wpN P ops C0 need Q r a w
 | e => Q e a w
section
variable {P : Program} {n : Nm} {l : Env} {C C0 : World → Prop} {ops : Array Oper} {Q : Exit → Act → World → Prop} {o : Oper} {k : Nat} {x y : List (Nat × Oper)} {p r : PT} {need : Nat → Bool}
theorem W.regp (p : PT) {id : Nat} {l0 : List Oper} (hs : ZSplit 0 [] l0 x y) (hm : P.follows .mixedOrders = true) (hB : nB l0.toArray (x.map (·.1)) p = true) (hC : ∀ w, C w → C { w with drawn := w.drawn + 1 })
  (h : Has l0.toArray y → ZL P n l0.toArray C (fun a' => ∀ w', C w' → wpN P l0.toArray C (needZ l0.toArray (x.map (·.1))) (NoPanic Q) p a' w') x l) : W P n (.region id l0.toArray true) Q l C := ⟨fun a w hs' hc => by
 simp only [nB, Bool.and_eq_true] at hB
 obtain ⟨h1, h4, h2, h3⟩ := hB
 obtain ⟨hx, hy, hlen⟩ := hs.spec
 have hQ : ∀ c a w, ¬ NoPanic Q (.panic c) a w := fun _ _ _ h => h
 have hHas : Has l0.toArray y := fun p hp => by
  have := (hy p hp).2
  simpa using this
 refine wpp_region_any hm (wpAny_np _ _ _ _ (wpAny_of_Z (C0 := C) (need := needZ l0.toArray (x.map (·.1))) _ _ _ _ ?_))
 have hD0 : Dn l0.toArray (Array.replicate l0.toArray.size false) := fun j o _ hj => by rw [getD_rep] at hj; cases hj
 have hD1 : ∀ (x : List (Nat × Oper)) (li : Array Bool), Dn l0.toArray li → preZ l0.toArray (x.map (·.1)) li = true → Dn l0.toArray (runZ (x.map (·.1)) li) := fun x => by
  induction x with
  | nil => exact fun li h _ => h
  | cons p x ih =>
   intro li h hp
   simp only [List.map_cons, preZ, Bool.and_eq_true] at hp
   exact ih _ (h.set (by simpa using hp.1)) hp.2.2
 have key := wpZ_pre (P := P) (ops := l0.toArray) (C0 := C) (Q := NoPanic Q) (xi0 := x.map (·.1)) (f := p.len) (w := { w with drawn := w.drawn + 1 }) h1 hQ (hC w hc) x (Array.replicate l0.toArray.size false) a
  (fun p hp => ⟨List.mem_map.2 ⟨p, hp, rfl⟩, by have := (hx p hp).2.1; simpa using this⟩) hD0 h2 ((h hHas).run a hs')
  (fun a' hK => wpZ_plan h1 hQ p _ a' _ (hD1 x _ hD0 h2) h3 (hK _ (hC w hc)))
 have e : x.length + p.len = l0.toArray.size := by
  have := Nat.eq_of_beq_eq_true h4
  rwa [List.length_map] at this
 exact (congrArg (fun s => wpZ P l0.toArray C (needZ l0.toArray (x.map (·.1))) (NoPanic Q) s (Array.replicate l0.toArray.size false) a { w with drawn := w.drawn + 1 }) e).mp key⟩
theorem ZL.nilN (h : TN P n ops C0 need Q p l C0) : ZL P n ops C0 (fun a' => ∀ w', C0 w' → wpN P ops C0 need Q p a' w') [] l := ⟨fun a hs w hc => h.run a w hs hc⟩
theorem TN.nil (h : At n Q .normal l C) : TN P n ops C0 need Q .nil l C := ⟨fun a w hs hc => h.run a w hs hc⟩
theorem TN.pu {d : Nat} {c : Bool} {v : Value} (hy : Has ops y) (hf : findK y k = some o) (hp : (pureB o && !depB o) = true) (hg : Guard l ops o.guard c) (hd : o.dst = some d) (hn : Nat.ble (d + 1) n.n = true) (hv : Pev P n l (fun _ => True) o c v)
  (kk : TN P n ops C0 need Q r ((d, c, v) :: l) C) : TN P n ops C0 need Q (.pu k r) l C := by
 have hi := hy.find hf
 simp only [Bool.and_eq_true, Bool.not_eq_true'] at hp
 have hn' := Nat.le_of_ble_eq_true hn
 refine ⟨fun a w hs hc => ?_⟩
 have hw := hg.wanted hs
 cases c with
 | true => exact ⟨o, v, hi, hp.2, .inl ⟨hw, fun w _ => still_of hp.1 (hv.run rfl a w hs trivial)⟩, by rw [hd]; exact kk.run _ w (hs.put hn' true v) hc⟩
 | false => exact ⟨o, undef, hi, hp.2, .inr ⟨hw, rfl⟩, by rw [hd]; exact kk.run _ w (hs.put hn' false v) hc⟩
theorem wpOp_of_OL (hi : ops[k]? = some o) (h : OL P n ops (TQn P ops C0 need k r Q) [o] l C) : ∀ a w, Sees n l a → C w → wpOp P ops Q k (fun a' w' => (need k = true → C0 w') ∧ wpN P ops C0 need Q r a' w') a w := fun a w hs hc => by
 have hp : ∀ ex a w, ex ≠ .normal → TQn P ops C0 need k r Q ex a w → Q ex a w := fun ex a w hne h => by
  cases ex <;> first | exact h | exact absurd rfl hne
 have h := h.run a w hs hc
 unfold wpOp
 simp only [hi]
 unfold wpList at h
 split
 ·rename_i hw
  rw [if_pos hw] at h
  rcases h with h | ⟨h, a', w', hq⟩
  ·refine .inl ?_
   unfold Oper.wp at h ⊢
   exact upon_Q hp h
  ·exact .inr ⟨h, a', w', hp _ _ _ (by simp) hq⟩
 ·rename_i hw
  rw [if_neg hw] at h
  exact h
theorem TN.ef (hy : Has ops y) (hf : findK y k = some o) (h : OL P n ops (TQn P ops C0 need k r Q) [o] l C) : TN P n ops C0 need Q (.ef k r) l C := ⟨wpOp_of_OL (hy.find hf) h⟩
theorem TN.fk {k1 k2 : Nat} {o1 o2 : Oper} {r1 r2 : PT} (hy : Has ops y) (hf1 : findK y k1 = some o1) (hf2 : findK y k2 = some o2) (h1 : OL P n ops (TQn P ops C0 need k1 r1 Q) [o1] l C) (h2 : OL P n ops (TQn P ops C0 need k2 r2 Q) [o2] l C) : TN P n ops C0 need Q (.fk k1 r1 k2 r2) l C := ⟨fun a w hs hc => ⟨wpOp_of_OL (hy.find hf1) h1 a w hs hc, wpOp_of_OL (hy.find hf2) h2 a w hs hc⟩⟩
theorem At.tnn (hk : need k = false) (h : TN P n ops C0 need Q r l C) : At n (TQn P ops C0 need k r Q) .normal l C := ⟨fun a w hs hc => ⟨fun h' => (by rw [hk] at h'; cases h'), h.run a w hs hc⟩⟩
theorem At.tkn (hk : ∀ w, C w → C0 w) (h : TN P n ops C0 need Q r l C) : At n (TQn P ops C0 need k r Q) .normal l C := ⟨fun a w hs hc => ⟨fun _ => hk w hc, h.run a w hs hc⟩⟩
end
end Go.Eng
