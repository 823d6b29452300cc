/- The walk of the reference's base and kinded. Conditions: none. -/
import Derived.Test.YtaponemcbnnebaaDoorKiD
import Derived.Test.YtaponemcbnnebaaDoorSli
import Derived.Test.YtaponemcbnnebaaDoorBuf
namespace Go.Ki
open Go.Eng Go.RowKit
set_option linter.unusedVariables false
set_option linter.unusedSimpArgs false
/-- the number of the parameters of the first data types -/
def bsum (ds : List DS) (i : Nat) : Nat := ((ds.take i).map DS.params).sum
theorem bsum_succ {ds : List DS} {i : Nat} {d : DS} (h : ds[i]? = some d) : bsum ds (i + 1) = bsum ds i + d.params := by
  simp [bsum, List.take_add_one, h]
theorem bsum_le {ds : List DS} {i : Nat} (h : i ≤ ds.length) (hp : ∀ d ∈ ds, d.params ≤ 4096) : bsum ds i ≤ i * 4096 := by
  induction i with
  | zero => simp [bsum]
  | succ i ih =>
    have hd : ds[i]? = some ds[i] := List.getElem?_eq_getElem (by omega)
    rw [bsum_succ hd]
    have := ih (by omega)
    have := hp _ (List.mem_of_getElem? hd)
    omega
theorem bsum_mono {ds : List DS} {i j : Nat} (h : i ≤ j) (hj : j ≤ ds.length) : bsum ds i ≤ bsum ds j := by
  induction j with
  | zero => rw [show i = 0 by omega]; omega
  | succ j ih =>
    by_cases e : i = j + 1
    · rw [e]; omega
    · have hd : ds[j]? = some ds[j] := List.getElem?_eq_getElem (by omega)
      rw [bsum_succ hd]
      have := ih (by omega) (by omega)
      omega
def fiOf : List DS → Nat → List Nat
  | [], _ => []
  | d :: r, a => a :: fiOf r (a + d.params)
theorem fiOf_length : ∀ (ds : List DS) (a : Nat), (fiOf ds a).length = ds.length
  | [], _ => rfl
  | d :: r, a => by rw [fiOf, List.length_cons, fiOf_length r, List.length_cons]
theorem fiOf_get : ∀ {ds : List DS} {a i : Nat}, i < ds.length → (fiOf ds a)[i]? = some (a + bsum ds i)
  | [], _, _, h => by simp at h
  | d :: r, a, 0, h => by simp [fiOf, bsum]
  | d :: r, a, i + 1, h => by
    rw [fiOf, List.getElem?_cons_succ, fiOf_get (by simpa using h)]
    simp [bsum, Nat.add_assoc]
/-- the kinds of the parameters of a type in the reference -/
def pkR (ds : List DS) (flat : List Int) (nm : ByteArray) : Option (List Int) := (psF [] nm ds (fiOf ds 0)).map fun l => l.map fun s => flat.getD s 0
def vsR (ds : List DS) (flat : List Int) (i : Nat) : List Int := (List.range ((ds.getD i ⟨⟨#[]⟩, 0, none, 0, 0⟩).params)).map fun p => flat.getD (bsum ds i + p) 0
end Go.Ki
namespace Go.Proofs.YtaponemcbnnebaaDoor.ki
open Go.RowKit Go.Eng Go.Ki
set_option linter.unusedVariables false
set_option linter.unusedSimpArgs false
set_option maxRecDepth 100000
theorem base_calls (qd : Option Addr) (cd i : Nat) (ds : List DS) (w : World) (hi : i ≤ ds.length) (hcap : ds.length ≤ cd) (hl : ds.length ≤ 4096) (hp : ∀ d ∈ ds, d.params ≤ 4096) (h : SlAt w w.heap.size qd (cat dc ds)) :
    Calls Tryd.prog 35 #[.slice qd ds.length cd, .int .i64 (i : Int)] w fun e w' => e = .returned (.int .i64 (bsum ds i : Int)) ∧ Ext w w' := by
  refine enter Tryd.func35 rfl Tryd.ntmps35 rfl (Cls.start w) ?_
  (simp only [argEnv, Nat.zero_add, Nat.reduceAdd])
  apply W.seq
  apply W.reg
  apply oas; rfl; rfl
  apply OL.nil
  with_reducible apply At.next
  apply W.seq
  apply W.reg
  apply oas; rfl; rfl
  apply OL.nil
  with_reducible apply At.next
  apply W.seq
  apply W.seq
  apply W.reg
  apply omv; rfl; rfl
  apply omv; rfl; rfl
  apply OL.op; exact Guard.none; rfl; rfl; apply Pev.slice_hi; rfl; exact yes; rfl; exact yes; rfl; rfl; intro hcond; omega
  apply OL.op; exact Guard.none; rfl; rfl; apply Pev.len_slice; rfl; exact yes; rfl
  apply omv; rfl; rfl
  apply OL.nil
  with_reducible apply At.next
  apply W.block
  refine W.loop (G := Nat) (fun k => k ≤ i) (fun k => i - k)
    (fun k => [(5, true, .int .i64 (bsum ds k : Int)), (10, true, .slice qd i cd), (11, true, .int .i64 (i : Int)), (12, true, .int .i64 (k : Int))])
    (fun _ => Cls [] [w]) 0 (by omega) (by (repeat (first | exact Sub.nil | apply Sub.cons rfl | (refine Sub.cons_eq rfl (congrArg (Value.int .i64) (by first | omega | (simp only; omega))) ?_)))) (fun w' hw' => hw') ?_
  intro k hk
  apply W.seq
  apply W.reg
  apply obn; rfl; rfl; rfl; apply Bin.lss
  apply OL.nil
  with_reducible apply At.next
  apply W.seq
  (refine W.cond rfl (fun hlt => ?_) (fun hlt => ?_)) <;> (try (simp only [Bool.and_eq_true, Bool.or_eq_true, Bool.not_eq_true', Bool.and_eq_false_iff, Bool.or_eq_false_iff, Bool.not_eq_false', decide_eq_true_eq, decide_eq_false_iff_not, Int.not_lt, Int.not_le] at hlt)) <;> (try (exfalso; first | omega | exact hlt trivial | contradiction))
  · obtain ⟨a, d, rfl, hab, hd, hcd⟩ := SlAt.elem h dlen (by decide) (show k < ds.length by omega)
    simp only [dc] at hcd
    have hb := bsum_le (show k ≤ ds.length by omega) hp
    have hdp := hp d (List.mem_of_getElem? hd)
    have hs := bsum_succ hd
    apply W.skip
    with_reducible apply At.next
    apply W.seq
    apply W.block
    apply W.seq
    apply W.reg
    apply OL.op; exact Guard.none; rfl; rfl; apply Pev.idx; rfl; exact yes; rfl; exact yes; rfl; rfl; intro hcond; omega
    apply OL.op; exact Guard.none; rfl; rfl; apply Pev.load_keptA; rfl; exact yes; exact .head _; rfl; intro hcond; assumption; rfl; intro hcond; (rw [add_block]; assumption); intro hcond; exact NotOwned.nil
    apply OL.alloc; rfl; rfl; exact CellsL.agg; (intro bk hbk; simp only [AllLe, and_true] at hbk)
    apply OL.storeB; rfl; rfl; exact CellsL.agg; rfl; rfl; rfl; apply Swap.z; apply Put.here; apply Over.cons; apply Over.cons; apply Over.cons; apply Over.nil
    apply OL.nil
    with_reducible apply At.next
    apply W.reg
    apply omv; rfl; rfl
    apply ofa; rfl; rfl; rfl
    apply old; rfl; rfl; exact .head _; rfl; rfl
    apply obn; rfl; rfl; rfl; apply Bin.add_in; omega
    apply oas; rfl; rfl
    apply OL.nil
    with_reducible apply At.in_normal
    with_reducible apply At.next
    apply W.reg
    apply obn; rfl; rfl; rfl; apply Bin.add_in; omega
    apply omv; rfl; rfl
    apply OL.nil
    exact At.again (k + 1) (by omega) (by omega) (by (repeat (first | exact Sub.nil | apply Sub.cons rfl | (refine Sub.cons_eq rfl (congrArg (Value.int .i64) (by first | omega | (simp only; omega))) ?_)))) (fun w' hw' => hw'.thin (by (repeat (first | exact Thin.nil | exact Thin.same | apply Thin.keep | (refine Thin.blk (by assumption) ?_) | (refine Thin.blk (by simp only [AllLe, and_true]; omega) ?_)))))
  · obtain rfl : k = i := by omega
    apply W.exit
    with_reducible apply At.then_exit
    with_reducible apply At.then_exit
    with_reducible apply At.in_exit
    with_reducible apply At.next
    apply W.seq
    apply W.reg
    apply omv; rfl; rfl
    apply oas; rfl; rfl
    apply OL.nil
    with_reducible apply At.next
    apply W.ret
    ((with_reducible apply At.fin1); rfl; rfl; intro w' hw')
    exact ⟨rfl, by (exact hw'.toExt (by (repeat (first | exact List.Mem.head _ | apply List.Mem.tail))) (fun k hk => by (focus ((try simp only [add_block]); (repeat (first | exact NotOwned.nil | exact hno _ (by omega) | refine NotOwned.nothing ?_ | refine NotOwned.nds (hlow _ (by omega)) ?_ | refine NotOwned.mapS (by omega) ?_ | apply NotOwned.bif | refine NotOwned.blk (by omega) ?_ | refine NotOwned.row (by omega) ?_ | refine NotOwned.grid (by assumption) (by omega) ?_ | refine NotOwned.pile (by omega) ?_)); done))))⟩
end Go.Proofs.YtaponemcbnnebaaDoor.ki
