/- The walk of core's twice. Conditions: none. -/
import Derived.Test.YtlboppiogeaicaaDoorCoE
import Derived.Test.YtlboppiogeaicaaDoorMpi
namespace Go.Co
open Go.Eng Go.RowKit
set_option linter.unusedVariables false
set_option linter.unusedSimpArgs false
/-- a map that is a set -/
def setM (l : List Int) : MI := l.map fun k => (k, .agg #[])
theorem iget_setM (l : List Int) (k : Int) : iget (setM l) k = if k ∈ l then some (.agg #[]) else none := by
  induction l with
  | nil => rfl
  | cons x r ih =>
    show (if x = k then some (Value.agg #[]) else iget (setM r) k) = _
    by_cases h : x = k
    · simp [h]
    · rw [if_neg h, ih]
      have : ¬ k = x := fun e => h e.symm
      simp [this]
theorem iput_setM {l : List Int} {k : Int} (h : ¬ k ∈ l) : iput (setM l) k (.agg #[]) = setM (l ++ [k]) := by
  rw [iput_new (by rw [iget_setM, if_neg h])]
  simp [setM]
theorem iput_setM_in {l : List Int} {k : Int} (h : k ∈ l) : iput (setM l) k (.agg #[]) = setM l := by
  induction l with
  | nil => cases h
  | cons x r ih =>
    show (if x = k then (k, Value.agg #[]) :: setM r else (x, .agg #[]) :: iput (setM r) k (.agg #[])) = _
    by_cases e : x = k
    · rw [if_pos e, e]; rfl
    · rw [if_neg e, ih (by rcases List.mem_cons.1 h with h | h; exact absurd h.symm e; exact h)]
      rfl
structure Lim (x : Ex) : Prop where
  b : x.binds.length ≤ 16
  a : x.alts.length ≤ 4096
  ab : ∀ a ∈ x.alts, a.binds.length ≤ 16
theorem not_nodup {l m : List Int} {x : Int} (h : x ∈ l) : ¬ (l ++ x :: m).Nodup := fun hn => by
  have := (List.nodup_append.1 hn).2.2 x h x (.head _)
  exact this rfl
theorem nodup_snoc {l : List Int} {x : Int} (h : l.Nodup) (hx : ¬ x ∈ l) : (l ++ [x]).Nodup := by
  refine List.nodup_append.2 ⟨h, by simp, fun a ha b hb => ?_⟩
  obtain rfl := List.mem_singleton.1 hb
  exact fun e => hx (e ▸ ha)
end Go.Co
namespace Go.Eng
open Go.Co
section
variable {P : Program} {n : Nat} {l : Env} {H : List Item} {S : List World} {C : World → Prop} {c : Bool} {d : Option Nat} {ty : TypeId} {pos : String} {af : Array Edge} {g : Option (Nat × Bool)} {t : TypeId} {x y : Operand} {cx cy : Bool}
theorem Pev.slookup2 {k e : TypeId} {b : Nat} {m : List Int} {s : Int} (hx : evl l x = some (cx, .map (some b))) (hcx : c = true → cx = true) (hy : evl l y = some (cy, .int .i64 s)) (hcy : c = true → cy = true) (ht : mapTi P t = some (k, e)) (hz : zeroV P e = some (.agg #[])) (hm : mapI b (setM m) ∈ H) :
    Pev P n l (Cls H S) ⟨d, .lookup t x y true, ty, pos, af, g⟩ c (.tuple #[.agg #[], .bool (decide (s ∈ m))]) := by
  have h1 := Pev.ilookup2 (P := P) (n := n) (C := Cls H S) (d := d) (ty := ty) (pos := pos) (af := af) (g := g) hx hcx hy hcy ht hz (fun w hw => hw.item hm)
  rw [iget_setM] at h1
  by_cases h : s ∈ m
  · simpa [h] using h1
  · simpa [h] using h1
end
end Go.Eng
namespace Go.Proofs.YtlboppiogeaicaaDoor.co
open Go.RowKit Go.Eng Go.Co
set_option linter.unusedVariables false
set_option linter.unusedSimpArgs false
set_option maxRecDepth 100000
theorem twice_calls (es : List (Ex × ExY)) (q qp : Option Addr) (cap cp : Nat) (ps : List Int) (w : World) (he : Arr exR w (low w) es q) (hlen : es.length ≤ 4096) (hp : IntsO w (low w) ps qp) (hpl : ps.length ≤ 4096) (hlim : ∀ p ∈ es, Lim p.1) :
    Calls Tryd.prog 69 [.slice q es.length cap, .slice qp ps.length cp].toArray w fun e w' => ∃ bb, e = .returned (.bool bb) ∧ (bb = true ↔ ¬ (ps ++ (es.map Prod.fst).flatMap bindersX).Nodup) ∧ Ext w w' := by
  refine enter Tryd.func69 rfl Tryd.ntmps69 rfl (Cls.start w) ?_
  (simp only [argEnv, Nat.zero_add, Nat.reduceAdd])
  apply W.seq
  apply W.reg
  apply oas; rfl; rfl
  apply OL.nil
  with_reducible apply At.next
  apply W.seq
  apply W.reg
  apply OL.imakeMap; rfl; rfl; (intro bk hbk; simp only [AllLe, and_true] at hbk)
  apply oas; rfl; rfl
  apply OL.nil
  with_reducible apply At.next
  apply W.seq
  apply W.seq
  apply W.reg
  apply omv; rfl; rfl
  apply OL.op; exact Guard.none; rfl; rfl; apply Pev.len_slice; rfl; exact yes; rfl
  apply omv; rfl; rfl
  apply OL.nil
  with_reducible apply At.next
  apply W.block
  revert bk
  intro bm hbm
  refine W.loop (G := Nat) (fun i => i ≤ ps.length ∧ (ps.take i).Nodup) (fun i => ps.length - i)
    (fun i => [(0, true, .slice q es.length cap), (5, true, .map (some bm)), (18, true, .slice qp ps.length cp), (19, true, .int .i64 (ps.length : Int)), (20, true, .int .i64 (i : Int))])
    (fun i => Cls [mapI bm (setM (ps.take i))] [w]) 0 ⟨by omega, by simp⟩ (by (repeat (first | exact Sub.nil | apply Sub.cons rfl | (refine Sub.cons_eq rfl (congrArg (Value.int .i64) (by first | omega | (simp only; omega))) ?_)))) (fun w' hw' => hw') ?_
  rintro i ⟨hi, hnd⟩
  apply W.seq
  apply W.reg
  apply obn; rfl; rfl; rfl; apply Bin.lss
  apply OL.nil
  with_reducible apply At.next
  apply W.seq
  (refine W.cond rfl (fun hlt => ?_) (fun hlt => ?_)) <;> (try (simp only [Bool.and_eq_true, Bool.or_eq_true, Bool.not_eq_true', Bool.and_eq_false_iff, Bool.or_eq_false_iff, Bool.not_eq_false', decide_eq_true_eq, decide_eq_false_iff_not, Int.not_lt, Int.not_le] at hlt)) <;> (try (exfalso; first | omega | exact hlt trivial | contradiction))
  · have hil : i < ps.length := by omega
    obtain ⟨a, v, hqa, hab, hv, hcell⟩ := hp.get hil
    have hab : a.block < w.heap.size := hab
    have hsplit : ps = ps.take i ++ v :: ps.drop (i + 1) := by
      obtain ⟨h1, rfl⟩ := List.getElem?_eq_some_iff.1 hv
      rw [← List.drop_eq_getElem_cons h1, List.take_append_drop]
    have htake : ps.take (i + 1) = ps.take i ++ [v] := by rw [List.take_add_one, hv]; rfl
    rw [hqa]
    apply W.skip
    with_reducible apply At.next
    apply W.seq
    apply W.block
    apply W.seq
    apply W.reg
    apply OL.op; exact Guard.none; rfl; rfl; apply Pev.idx; rfl; exact yes; rfl; exact yes; rfl; rfl; intro hcond; omega
    apply OL.op; exact Guard.none; rfl; rfl; apply Pev.load_kept; rfl; exact yes; exact .head _; rfl; intro hcond; assumption; intro hcond; (rw [add_block]; assumption); intro hcond; simp only [add_block]; refine NotOwned.mapI (by omega) ?_; exact NotOwned.nil
    apply oas; rfl; rfl
    apply OL.nil
    with_reducible apply At.next
    apply W.seq
    apply W.seq
    apply W.reg
    apply omv; rfl; rfl
    apply omv; rfl; rfl
    apply OL.op; exact Guard.none; rfl; rfl; apply Pev.slookup2; rfl; exact yes; rfl; exact yes; rfl; rfl; exact .head _
    apply omv; rfl; rfl
    apply oex; rfl; rfl; rfl
    apply oex; rfl; rfl; rfl
    apply OL.alloc; rfl; rfl; exact CellsL.agg; (intro bk hbk; simp only [AllLe, and_true] at hbk)
    apply OL.storeB; rfl; rfl; exact CellsL.agg; rfl; rfl; rfl; apply Swap.z; apply Put.here; apply Over.nil
    apply oas; rfl; rfl
    apply OL.nil
    with_reducible apply At.next
    apply W.seq
    apply W.reg
    apply omv; rfl; rfl
    apply OL.nil
    with_reducible apply At.next
    (refine W.cond rfl (fun hin => ?_) (fun hin => ?_)) <;> (try (simp only [Bool.and_eq_true, Bool.or_eq_true, Bool.not_eq_true', Bool.and_eq_false_iff, Bool.or_eq_false_iff, Bool.not_eq_false', decide_eq_true_eq, decide_eq_false_iff_not, Int.not_lt, Int.not_le] at hin)) <;> (try (exfalso; first | omega | exact hin trivial | contradiction))
    · apply W.seq
      apply W.reg
      apply oas; rfl; rfl
      apply OL.nil
      with_reducible apply At.next
      apply W.ret
      with_reducible apply At.then_ret
      with_reducible apply At.in_ret
      with_reducible apply At.then_ret
      with_reducible apply At.then_ret
      with_reducible apply At.in_ret
      with_reducible apply At.then_ret
      ((with_reducible apply At.fin1); rfl; rfl; intro w' hw')
      refine ⟨true, rfl, ⟨fun _ => ?_, fun _ => rfl⟩, by (exact hw'.toExt (by (repeat (first | exact List.Mem.head _ | apply List.Mem.tail))) (fun k hk => by (focus ((try simp only [add_block]); (repeat (first | exact NotOwned.nil | exact hno _ (by omega) | refine NotOwned.nothing ?_ | refine NotOwned.nds (hlow _ (by omega)) ?_ | refine NotOwned.mapS (by omega) ?_ | apply NotOwned.bif | refine NotOwned.blk (by omega) ?_ | refine NotOwned.row (by omega) ?_ | refine NotOwned.grid (by assumption) (by omega) ?_ | refine NotOwned.pile (by omega) ?_ | refine NotOwned.pool (by omega) ?_ | refine NotOwned.mapI (by omega) ?_ | refine NotOwned.mapX (by omega) ?_ | refine NotOwned.itI (by omega) ?_)); done))))⟩
      rw [hsplit, List.append_assoc]
      exact not_nodup hin
    apply W.skip
    with_reducible apply At.next
    apply W.reg
    apply omv; rfl; rfl
    apply omv; rfl; rfl
    apply OL.op; exact Guard.none; rfl; rfl; apply Pev.build; rfl; exact CellsL.agg; rfl; apply Fill.nil; rfl
    apply OL.iput; rfl; rfl; rfl; rfl; apply Hole.s; apply Hole.z
    apply OL.nil
    with_reducible apply At.in_normal
    with_reducible apply At.next
    apply W.reg
    apply obn; rfl; rfl; rfl; apply Bin.add_in; omega
    apply omv; rfl; rfl
    apply OL.nil
    rw [iput_setM hin, ← htake]
    skip
    exact At.again (i + 1) ⟨by omega, by rw [htake]; exact nodup_snoc hnd hin⟩ (by omega) (by (repeat (first | exact Sub.nil | apply Sub.cons rfl | (refine Sub.cons_eq rfl (congrArg (Value.int .i64) (by first | omega | (simp only; omega))) ?_)))) (fun w' hw' => hw'.thin (by (repeat (first | exact Thin.nil | exact Thin.same | apply Thin.keep | (refine Thin.blk (by assumption) ?_) | (refine Thin.blk (by simp only [AllLe, and_true]; omega) ?_)))))
  obtain rfl : i = ps.length := by omega
  rw [List.take_length] at hnd ⊢
  apply W.exit
  with_reducible apply At.then_exit
  with_reducible apply At.then_exit
  with_reducible apply At.in_exit
  with_reducible apply At.next
  apply W.seq
  apply W.seq
  apply W.reg
  apply omv; rfl; rfl
  apply OL.op; exact Guard.none; rfl; rfl; apply Pev.len_slice; rfl; exact yes; rfl
  apply omv; rfl; rfl
  apply OL.nil
  with_reducible apply At.next
  apply W.block
  refine W.loop (G := Nat) (fun i => i ≤ es.length ∧ (ps ++ ((es.take i).map Prod.fst).flatMap bindersX).Nodup) (fun i => es.length - i)
    (fun i => [(5, true, .map (some bm)), (35, true, .slice q es.length cap), (36, true, .int .i64 (es.length : Int)), (37, true, .int .i64 (i : Int))])
    (fun i => Cls [mapI bm (setM (ps ++ ((es.take i).map Prod.fst).flatMap bindersX))] [w]) 0 ⟨by omega, by simpa using hnd⟩ (by (repeat (first | exact Sub.nil | apply Sub.cons rfl | (refine Sub.cons_eq rfl (congrArg (Value.int .i64) (by first | omega | (simp only; omega))) ?_)))) (fun w' hw' => by simpa using hw') ?_
  rintro i ⟨hi, hnd⟩
  generalize hs0 : ps ++ ((es.take i).map Prod.fst).flatMap bindersX = s0 at hnd
  apply W.seq
  apply W.reg
  apply obn; rfl; rfl; rfl; apply Bin.lss
  apply OL.nil
  with_reducible apply At.next
  apply W.seq
  (refine W.cond rfl (fun hlt => ?_) (fun hlt => ?_)) <;> (try (simp only [Bool.and_eq_true, Bool.or_eq_true, Bool.not_eq_true', Bool.and_eq_false_iff, Bool.or_eq_false_iff, Bool.not_eq_false', decide_eq_true_eq, decide_eq_false_iff_not, Int.not_lt, Int.not_le] at hlt)) <;> (try (exfalso; first | omega | exact hlt trivial | contradiction))
  · have hil : i < es.length := by omega
    obtain ⟨a, p, hqa, hab, hp, hcell, hok⟩ := he.get hil
    have hab : a.block < w.heap.size := hab
    have hcell : CellsAt w (a.add (i * 5)) [.int .i64 p.1.op, .int .i64 p.1.n, .slice p.2.b.1 p.1.binds.length p.2.b.2, .slice p.2.k.1 p.1.kids.length p.2.k.2, .slice p.2.a.1 p.1.alts.length p.2.a.2] := hcell
    have hL := hlim p (List.mem_of_getElem? hp)
    have hbx : bindersX p.1 = bindersT p.1.op p.1.binds p.1.alts := rfl
    have hsnext : ps ++ ((es.take (i + 1)).map Prod.fst).flatMap bindersX = s0 ++ bindersX p.1 := by
      rw [← hs0, List.take_add_one, hp]
      simp
    have hsall : ∃ r, ps ++ (es.map Prod.fst).flatMap bindersX = s0 ++ (bindersX p.1 ++ r) := by
      refine ⟨((es.drop (i + 1)).map Prod.fst).flatMap bindersX, ?_⟩
      rw [← List.append_assoc, ← hsnext, List.append_assoc, ← List.flatMap_append, ← List.map_append, List.take_append_drop]
    rw [hqa]
    apply W.skip
    with_reducible apply At.next
    apply W.seq
    apply W.block
    apply W.seq
    apply W.reg
    apply OL.op; exact Guard.none; rfl; rfl; apply Pev.idx; rfl; exact yes; rfl; exact yes; rfl; rfl; intro hcond; omega
    apply OL.op; exact Guard.none; rfl; rfl; apply Pev.load_keptA; rfl; exact yes; exact .head _; rfl; intro hcond; assumption; rfl; intro hcond; (rw [add_block]; assumption); intro hcond; simp only [add_block]; refine NotOwned.mapI (by omega) ?_; exact NotOwned.nil
    apply OL.alloc; rfl; rfl; exact CellsL.agg; (intro bk hbk; simp only [AllLe, and_true] at hbk)
    apply OL.storeB; rfl; rfl; exact CellsL.agg; rfl; rfl; rfl; apply Swap.z; apply Put.here; apply Over.cons; apply Over.cons; apply Over.cons; apply Over.cons; apply Over.cons; apply Over.nil
    apply OL.nil
    with_reducible apply At.next
    apply W.seq
    apply W.reg
    apply ofa; rfl; rfl; rfl
    apply old; rfl; rfl; exact .head _; rfl; rfl
    apply ofa; rfl; rfl; rfl
    apply old; rfl; rfl; exact .head _; rfl; rfl
    apply ofa; rfl; rfl; rfl
    apply old; rfl; rfl; exact .head _; rfl; rfl
    apply OL.op; exact Guard.none; rfl; rfl; apply Pev.build; rfl; exact CellsL.agg; rfl; apply Fill.cons rfl; exact CellsL.one rfl; rfl; rfl; apply Put.here; apply Over.cons; apply Over.nil; apply Fill.cons rfl; exact CellsL.one rfl; rfl; rfl; apply Put.skip; apply Put.skip; apply Put.here; apply Over.cons; apply Over.nil; apply Fill.cons rfl; exact CellsL.one rfl; rfl; rfl; apply Put.skip; apply Put.skip; apply Put.skip; apply Put.skip; apply Put.here; apply Over.cons; apply Over.nil; apply Fill.nil; rfl
    apply OL.box; rfl; rfl; exact CellsL.agg; (intro bk hbk; simp only [AllLe, and_true] at hbk)
    apply oas; rfl; rfl
    apply OL.nil
    with_reducible apply At.next
    apply W.seq
    apply W.reg
    apply omv; rfl; rfl
    rename_i bx hbx1
    refine OL.callE (α := World × Nat × Option Addr × Nat) (fun x => .slice x.2.2.1 (bindersX p.1).length x.2.2.2) (fun x => w.heap.size ≤ x.1.heap.size ∧ bm < x.2.1 ∧ w.heap.size ≤ x.2.1 ∧ IntsO x.1 (fun k => x.2.1 ≤ k ∧ k < x.1.heap.size) (bindersX p.1) x.2.2.1 ∧ (bindersX p.1).length ≤ 9223372036854775807) (fun x => Cls [mapI bm (setM s0)] [x.1, w]) rfl rfl (by (repeat (first | exact Args.nil | (apply Args.cons rfl; ((first | exact fun _ => rfl | exact fun h => h | (intro h; simp_all; done))))))) (fun w2 hw2 => ?_) ?_
    · have hb2 : (blk bk 91 [.int .i64 p.1.op, .int .i64 0, .slice p.2.b.1 p.1.binds.length p.2.b.2, .slice none 0 0, .slice p.2.a.1 p.1.alts.length p.2.a.2]).holds w2 := hw2.item (by (repeat (first | exact List.Mem.head _ | apply List.Mem.tail)))
      have hlt2 := hw2.lt (mapI bm (setM s0)) (by (repeat (first | exact List.Mem.head _ | apply List.Mem.tail))) bm rfl
      have hok2 := ExOk.at hok hw2 (.head _) (fun k hk => by (focus ((try simp only [add_block]); (repeat (first | exact NotOwned.nil | exact hno _ (by omega) | refine NotOwned.nothing ?_ | refine NotOwned.nds (hlow _ (by omega)) ?_ | refine NotOwned.mapS (by omega) ?_ | apply NotOwned.bif | refine NotOwned.blk (by omega) ?_ | refine NotOwned.row (by omega) ?_ | refine NotOwned.grid (by assumption) (by omega) ?_ | refine NotOwned.pile (by omega) ?_ | refine NotOwned.pool (by omega) ?_ | refine NotOwned.mapI (by omega) ?_ | refine NotOwned.mapX (by omega) ?_ | refine NotOwned.itI (by omega) ?_)); done)))
      have hkw := hw2.kp w (.head _)
      refine (Binders_calls bk p.1.op 0 p.1.binds 0 p.1.alts ⟨p.2.b, (none, 0), p.2.a⟩ w2 ⟨blk_lt hb2, fun j v hj => by rw [add_mid, blk_cell hb2]; simpa using hj, hL.b, hL.a, hL.ab, hok2.b, hok2.a⟩).mono fun e w3 ⟨q3, c3, h1, h2, h3, h4⟩ => ?_
      have hw3 := hw2.ext h2
      refine ⟨(w3, w2.heap.size, q3, c3), h1, ⟨Nat.le_trans hkw.size h2.size, hlt2, hkw.size, h3, ?_⟩, (hw3.thin (by (repeat (first | exact Thin.nil | exact Thin.same | apply Thin.keep | (refine Thin.blk (by assumption) ?_) | (refine Thin.blk (by simp only [AllLe, and_true]; omega) ?_))))).note⟩
      rw [hbx]
      unfold bindersT
      have h5 := flat_len hL.ab
      have h6 := hL.a
      have h7 := hL.b
      have h8 : (if p.1.op = 2 ∨ p.1.op = 4 ∨ p.1.op = 5 then p.1.binds else []).length ≤ p.1.binds.length := by split <;> simp
      rw [List.length_append]
      omega
    rintro ⟨w3, lo, q3, c3⟩ ⟨hsz3, hblo, hwlo, hI3, hbl3⟩
    simp only at hsz3 hblo hwlo hI3 ⊢
    generalize hbi : bindersX p.1 = bs at *
    apply OL.op; exact Guard.none; rfl; rfl; apply Pev.len_slice; rfl; exact yes; rfl
    apply omv; rfl; rfl
    apply OL.nil
    with_reducible apply At.next
    apply W.block
    refine W.loop (G := Nat) (fun j => j ≤ bs.length ∧ (s0 ++ bs.take j).Nodup) (fun j => bs.length - j)
      (fun j => [(5, true, .map (some bm)), (35, true, .slice (some a) es.length cap), (36, true, .int .i64 (es.length : Int)), (37, true, .int .i64 (i : Int)), (50, true, .slice q3 bs.length c3), (51, true, .int .i64 (bs.length : Int)), (52, true, .int .i64 (j : Int))])
      (fun j => Cls [mapI bm (setM (s0 ++ bs.take j))] [w3, w]) 0 ⟨by omega, by simpa using hnd⟩ (by (repeat (first | exact Sub.nil | apply Sub.cons rfl | (refine Sub.cons_eq rfl (congrArg (Value.int .i64) (by first | omega | (simp only; omega))) ?_)))) (fun w' hw' => by simpa using hw') ?_
    rintro j ⟨hj, hnd2⟩
    apply W.seq
    apply W.reg
    apply obn; rfl; rfl; rfl; apply Bin.lss
    apply OL.nil
    with_reducible apply At.next
    apply W.seq
    (refine W.cond rfl (fun hlt2 => ?_) (fun hlt2 => ?_)) <;> (try (simp only [Bool.and_eq_true, Bool.or_eq_true, Bool.not_eq_true', Bool.and_eq_false_iff, Bool.or_eq_false_iff, Bool.not_eq_false', decide_eq_true_eq, decide_eq_false_iff_not, Int.not_lt, Int.not_le] at hlt2)) <;> (try (exfalso; first | omega | exact hlt2 trivial | contradiction))
    · have hjl : j < bs.length := by omega
      obtain ⟨av, v, hqv, habv, hv, hcv⟩ := hI3.get hjl
      obtain ⟨habv1, habv2⟩ := habv
      have hbt : bs.take (j + 1) = bs.take j ++ [v] := by rw [List.take_add_one, hv]; rfl
      rw [hqv]
      apply W.skip
      with_reducible apply At.next
      apply W.seq
      apply W.block
      apply W.seq
      apply W.reg
      apply OL.op; exact Guard.none; rfl; rfl; apply Pev.idx; rfl; exact yes; rfl; exact yes; rfl; rfl; intro hcond; omega
      apply OL.op; exact Guard.none; rfl; rfl; apply Pev.load_kept; rfl; exact yes; exact .head _; rfl; intro hcond; assumption; intro hcond; (rw [add_block]; assumption); intro hcond; simp only [add_block]; refine NotOwned.mapI (by omega) ?_; exact NotOwned.nil
      apply oas; rfl; rfl
      apply OL.nil
      with_reducible apply At.next
      apply W.seq
      apply W.seq
      apply W.reg
      apply omv; rfl; rfl
      apply omv; rfl; rfl
      apply OL.op; exact Guard.none; rfl; rfl; apply Pev.slookup2; rfl; exact yes; rfl; exact yes; rfl; rfl; exact .head _
      apply omv; rfl; rfl
      apply oex; rfl; rfl; rfl
      apply oex; rfl; rfl; rfl
      apply OL.alloc; rfl; rfl; exact CellsL.agg; (intro bk hbk; simp only [AllLe, and_true] at hbk)
      apply OL.storeB; rfl; rfl; exact CellsL.agg; rfl; rfl; rfl; apply Swap.z; apply Put.here; apply Over.nil
      apply oas; rfl; rfl
      apply OL.nil
      with_reducible apply At.next
      apply W.seq
      apply W.reg
      apply omv; rfl; rfl
      apply OL.nil
      with_reducible apply At.next
      (refine W.cond rfl (fun hin => ?_) (fun hin => ?_)) <;> (try (simp only [Bool.and_eq_true, Bool.or_eq_true, Bool.not_eq_true', Bool.and_eq_false_iff, Bool.or_eq_false_iff, Bool.not_eq_false', decide_eq_true_eq, decide_eq_false_iff_not, Int.not_lt, Int.not_le] at hin)) <;> (try (exfalso; first | omega | exact hin trivial | contradiction))
      · apply W.seq
        apply W.reg
        apply oas; rfl; rfl
        apply OL.nil
        with_reducible apply At.next
        apply W.ret
        with_reducible apply At.then_ret
        with_reducible apply At.in_ret
        with_reducible apply At.then_ret
        with_reducible apply At.then_ret
        with_reducible apply At.in_ret
        with_reducible apply At.in_ret
        with_reducible apply At.then_ret
        with_reducible apply At.then_ret
        with_reducible apply At.in_ret
        with_reducible apply At.then_ret
        ((with_reducible apply At.fin1); rfl; rfl; intro w' hw')
        refine ⟨true, rfl, ⟨fun _ => ?_, fun _ => rfl⟩, by (exact hw'.toExt (by (repeat (first | exact List.Mem.head _ | apply List.Mem.tail))) (fun k hk => by (focus ((try simp only [add_block]); (repeat (first | exact NotOwned.nil | exact hno _ (by omega) | refine NotOwned.nothing ?_ | refine NotOwned.nds (hlow _ (by omega)) ?_ | refine NotOwned.mapS (by omega) ?_ | apply NotOwned.bif | refine NotOwned.blk (by omega) ?_ | refine NotOwned.row (by omega) ?_ | refine NotOwned.grid (by assumption) (by omega) ?_ | refine NotOwned.pile (by omega) ?_ | refine NotOwned.pool (by omega) ?_ | refine NotOwned.mapI (by omega) ?_ | refine NotOwned.mapX (by omega) ?_ | refine NotOwned.itI (by omega) ?_)); done))))⟩
        obtain ⟨r, hr⟩ := hsall
        have hsplit : bs = bs.take j ++ v :: bs.drop (j + 1) := by
          obtain ⟨h1, rfl⟩ := List.getElem?_eq_some_iff.1 hv
          rw [← List.drop_eq_getElem_cons h1, List.take_append_drop]
        rw [hr]
        have e1 : s0 ++ (bs ++ r) = (s0 ++ bs.take j) ++ v :: (bs.drop (j + 1) ++ r) := by
          conv => lhs; rw [hsplit]
          simp [List.append_assoc]
        rw [e1]
        exact not_nodup hin
      apply W.skip
      with_reducible apply At.next
      apply W.reg
      apply omv; rfl; rfl
      apply omv; rfl; rfl
      apply OL.op; exact Guard.none; rfl; rfl; apply Pev.build; rfl; exact CellsL.agg; rfl; apply Fill.nil; rfl
      apply OL.iput; rfl; rfl; rfl; rfl; apply Hole.s; apply Hole.z
      apply OL.nil
      with_reducible apply At.in_normal
      with_reducible apply At.next
      apply W.reg
      apply obn; rfl; rfl; rfl; apply Bin.add_in; omega
      apply omv; rfl; rfl
      apply OL.nil
      rw [iput_setM hin, List.append_assoc, ← hbt]
      skip
      exact At.again (j + 1) ⟨by omega, by rw [hbt, ← List.append_assoc]; exact nodup_snoc hnd2 hin⟩ (by omega) (by (repeat (first | exact Sub.nil | apply Sub.cons rfl | (refine Sub.cons_eq rfl (congrArg (Value.int .i64) (by first | omega | (simp only; omega))) ?_)))) (fun w' hw' => hw'.thin (by (repeat (first | exact Thin.nil | exact Thin.same | apply Thin.keep | (refine Thin.blk (by assumption) ?_) | (refine Thin.blk (by simp only [AllLe, and_true]; omega) ?_)))))
    · obtain rfl : j = bs.length := by omega
      rw [List.take_length] at hnd2 ⊢
      rw [← hsnext] at hnd2 ⊢
      apply W.exit
      with_reducible apply At.then_exit
      with_reducible apply At.then_exit
      with_reducible apply At.in_exit
      with_reducible apply At.in_normal
      with_reducible apply At.next
      apply W.reg
      apply obn; rfl; rfl; rfl; apply Bin.add_in; omega
      apply omv; rfl; rfl
      apply OL.nil
      exact At.again (i + 1) ⟨by omega, hnd2⟩ (by omega) (by (repeat (first | exact Sub.nil | apply Sub.cons rfl | (refine Sub.cons_eq rfl (congrArg (Value.int .i64) (by first | omega | (simp only; omega))) ?_)))) (fun w' hw' => hw'.forget (by simp))
  · obtain rfl : i = es.length := by omega
    rw [List.take_length] at hs0
    apply W.exit
    with_reducible apply At.then_exit
    with_reducible apply At.then_exit
    with_reducible apply At.in_exit
    with_reducible apply At.next
    apply W.seq
    apply W.reg
    apply oas; rfl; rfl
    apply OL.nil
    with_reducible apply At.next
    apply W.ret
    ((with_reducible apply At.fin1); rfl; rfl; intro w' hw')
    refine ⟨false, rfl, ⟨fun h => (by cases h), fun h => absurd (show (ps ++ (es.map Prod.fst).flatMap bindersX).Nodup by rw [hs0]; exact hnd) h⟩, by (exact hw'.toExt (by (repeat (first | exact List.Mem.head _ | apply List.Mem.tail))) (fun k hk => by (focus ((try simp only [add_block]); (repeat (first | exact NotOwned.nil | exact hno _ (by omega) | refine NotOwned.nothing ?_ | refine NotOwned.nds (hlow _ (by omega)) ?_ | refine NotOwned.mapS (by omega) ?_ | apply NotOwned.bif | refine NotOwned.blk (by omega) ?_ | refine NotOwned.row (by omega) ?_ | refine NotOwned.grid (by assumption) (by omega) ?_ | refine NotOwned.pile (by omega) ?_ | refine NotOwned.pool (by omega) ?_ | refine NotOwned.mapI (by omega) ?_ | refine NotOwned.mapX (by omega) ?_ | refine NotOwned.itI (by omega) ?_)); done))))⟩
end Go.Proofs.YtlboppiogeaicaaDoor.co
