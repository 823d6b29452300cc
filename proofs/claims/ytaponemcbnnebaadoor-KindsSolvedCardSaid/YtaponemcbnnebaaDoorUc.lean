/- The program's check of a type: it answers as tyErr says; the checker's count goes down as tyErr's goes up. -/
import Derived.Test.YtaponemcbnnebaaDoorTe
namespace Go.Proofs.YtaponemcbnnebaaDoor.uc
open Go.Eng Go.RowKit
def sizesAt (w : World) : Prop := CellsAt w ⟨0, 0, none⟩ [.int .i64 0, .int .i64 (-1), .int .i64 3, .int .i64 1, .int .i64 0, .int .i64 2]
theorem sizes_get {w : World} (h : sizesAt w) {k : Int} (hk : 0 ≤ k ∧ k ≤ 5) : w.cell? ⟨0, 0 + k.toNat * 1, none⟩ = some (.int .i64 (manyOf k)) := by
  have := h (0 + k.toNat * 1) _ (many_get hk)
  rwa [add_mid, Nat.zero_add] at this
theorem sizesAt.keep {w w' : World} {B : Nat} (hB : 0 < B) (hk : ∀ p : Addr, p.block < B → w'.cell? p = w.cell? p) (h : sizesAt w) : sizesAt w' := CellsAt.keep hk hB h
set_option maxRecDepth 100000 in
theorem check_calls (m : Nat) : ∀ (t : Ty) (row : Bool) (depth seen : Int) (cs : List Value) (w : World) (B b : Nat), t.sz ≤ m → TyC w B t cs → 0 < B → B ≤ b → sizesAt w → (blk b 54 [.int .i64 (4096 - seen)]).holds w → 0 ≤ depth → depth ≤ 401 → 0 ≤ seen → seen ≤ 4096 →
    Calls Tryd.prog 17 [.pointer (some ⟨b, 0, none⟩), .agg cs.toArray, .bool row, .int .i64 depth].toArray w fun e w' =>
      e = .returned (.int .i64 (tyErr t row depth seen).2) ∧ Keep (fun k => k = b) w w' ∧ (blk b 54 [.int .i64 (4096 - (tyErr t row depth seen).1)]).holds w' := by
  induction m with
  | zero => intro t row depth seen cs w B b hm; cases t; simp only [Ty.sz] at hm; omega
  | succ m ih =>
  intro t row depth seen cs w B b hm ht hgB hBb hsz hbl hd0 hd1 hs0 hs1
  have hbw := (Cls.start_blk hbl).lt _ (.head _) b rfl
  obtain ⟨kind, name, var, ts⟩ := t
  simp only [TyC] at ht
  obtain ⟨q, cap, rfl, hk, hv, hlen, hq⟩ := ht
  unfold I64 at hk hv
  refine enter Tryd.func17 rfl Tryd.ntmps17 rfl (Cls.start_blk hbl) ?_
  (simp only [argEnv, Nat.zero_add, Nat.reduceAdd])
  apply W.seq
  apply W.reg
  apply OL.box; rfl; rfl; exact CellsL.agg; (intro bk hbk; simp only [AllLe, and_true] at hbk)
  apply oas; rfl; rfl
  apply OL.nil
  with_reducible apply At.next
  apply W.seq
  apply W.reg
  apply omv; rfl; rfl
  apply OL.op; exact Guard.none; rfl; rfl; apply Pev.nil_ptr; rfl; exact yes
  apply ofa; rfl; rfl; rfl
  apply old; rfl; rfl; exact .tail _ (.head _); rfl; rfl
  apply obn; rfl; rfl; rfl; apply Bin.sub_in; omega
  apply OL.op; exact Guard.none; rfl; rfl; apply Pev.nil_ptr; rfl; exact yes
  apply ofa; rfl; rfl; rfl
  apply OL.storeB; rfl; rfl; exact CellsL.one rfl; rfl; rfl; rfl; apply Swap.s; apply Swap.z; apply Put.here; apply Over.cons; apply Over.nil
  apply OL.nil
  with_reducible apply At.next
  apply W.seq
  apply W.block
  apply W.seq
  apply W.reg
  apply omv; rfl; rfl
  apply OL.op; exact Guard.none; rfl; rfl; apply Pev.nil_ptr; rfl; exact yes
  apply ofa; rfl; rfl; rfl
  apply old; rfl; rfl; exact .tail _ (.head _); rfl; rfl
  apply obn; rfl; rfl; rfl; apply Bin.lss
  apply omv; rfl; rfl
  apply OL.op; exact Guard.no rfl rfl; rfl; rfl; apply Pev.move; rfl; exact yes
  apply OL.op; exact Guard.no rfl rfl; rfl; rfl; apply Pev.bin; rfl; exact fun h => h; rfl; exact yes; intro hcond; apply Bin.gtr
  apply OL.op; exact Guard.none; rfl; rfl; apply Pev.pick_or; rfl; exact yes; rfl; exact fun h => h
  apply oas; rfl; rfl
  apply OL.nil
  with_reducible apply At.next
  have hleft : ([.int .i64 (4096 - seen - 1)] : List Value) = [.int .i64 (4096 - (seen + 1))] := by rw [show (4096 - seen - 1 : Int) = 4096 - (seen + 1) from by omega]
  (refine W.cond rfl (fun h1 => ?_) (fun h1 => ?_)) <;> (try (simp only [Bool.and_eq_true, Bool.or_eq_true, Bool.not_eq_true', Bool.and_eq_false_iff, Bool.or_eq_false_iff, Bool.not_eq_false', decide_eq_true_eq, decide_eq_false_iff_not, Int.not_lt, Int.not_le] at h1)) <;> (try (exfalso; first | omega | exact h1 trivial | contradiction))
  · apply W.seq
    apply W.reg
    apply oas; rfl; rfl
    apply OL.nil
    with_reducible apply At.next
    apply W.ret
    with_reducible apply At.in_ret
    with_reducible apply At.then_ret
    ((with_reducible apply At.fin1); rfl; rfl; intro w' hw')
    have he : tyErr (.mk kind name var ts) row depth seen = (seen + 1, 2) := tyErr_err (by unfold nodeErr; grind) (by decide)
    rw [he]
    exact ⟨rfl, by (exact hw'.toKeep (by (repeat (first | exact List.Mem.head _ | apply List.Mem.tail))) (fun k hk (hO : ¬ k = b) => by (focus ((try simp only [add_block]); (repeat (first | exact NotOwned.nil | refine NotOwned.blk (by omega) ?_)); done)))), blk_eq (hw'.item (by (repeat (first | exact List.Mem.head _ | apply List.Mem.tail)))) hleft⟩
  apply W.seq
  apply W.reg
  apply ofa; rfl; rfl; rfl
  apply old; rfl; rfl; exact .head _; rfl; rfl
  apply obn; rfl; rfl; rfl; apply Bin.lss
  apply omv; rfl; rfl
  apply OL.op; exact Guard.no rfl rfl; rfl; rfl; apply Pev.fld; rfl; exact yes; rfl
  apply OL.op; exact Guard.no rfl rfl; rfl; rfl; apply Pev.load_blk; rfl; exact fun h => h; exact .head _; rfl; rfl
  apply OL.op; exact Guard.no rfl rfl; rfl; rfl; apply Pev.bin; rfl; exact fun h => h; rfl; exact yes; intro hcond; apply Bin.gtr
  apply OL.op; exact Guard.none; rfl; rfl; apply Pev.pick_or; rfl; exact yes; rfl; exact fun h => h
  apply oas; rfl; rfl
  apply OL.nil
  with_reducible apply At.next
  (refine W.cond rfl (fun h2 => ?_) (fun h2 => ?_)) <;> (try (simp only [Bool.and_eq_true, Bool.or_eq_true, Bool.not_eq_true', Bool.and_eq_false_iff, Bool.or_eq_false_iff, Bool.not_eq_false', decide_eq_true_eq, decide_eq_false_iff_not, Int.not_lt, Int.not_le] at h2)) <;> (try (exfalso; first | omega | exact h2 trivial | contradiction))
  · apply W.seq
    apply W.reg
    apply oas; rfl; rfl
    apply OL.nil
    with_reducible apply At.next
    apply W.ret
    with_reducible apply At.in_ret
    with_reducible apply At.then_ret
    ((with_reducible apply At.fin1); rfl; rfl; intro w' hw')
    have he : tyErr (.mk kind name var ts) row depth seen = (seen + 1, 9) := tyErr_err (by unfold nodeErr; grind) (by decide)
    rw [he]
    exact ⟨rfl, by (exact hw'.toKeep (by (repeat (first | exact List.Mem.head _ | apply List.Mem.tail))) (fun k hk (hO : ¬ k = b) => by (focus ((try simp only [add_block]); (repeat (first | exact NotOwned.nil | refine NotOwned.blk (by omega) ?_)); done)))), blk_eq (hw'.item (by (repeat (first | exact List.Mem.head _ | apply List.Mem.tail)))) hleft⟩
  have hmany := sizes_get hsz h2
  have hg0 : 0 < w.heap.size := by omega
  apply W.seq
  apply W.seq
  apply W.regd; kernel_rfl; kernel_rfl; exact fun w hw => hw.drew
  apply qfa; rfl; rfl; rfl
  apply qld; rfl; rfl; exact .head _; rfl; rfl
  apply QL.op; exact Guard.none; rfl; rfl; apply Pev.idxArr; rfl; exact yes; rfl; exact yes; rfl; intro hcond; omega; rfl
  apply QL.op; exact Guard.none; rfl; rfl; apply Pev.load_kept; rfl; exact yes; exact .head _; rfl; intro hcond; assumption; intro hcond; assumption; intro hcond; simp only [add_block]; refine NotOwned.blk (by omega) ?_; refine NotOwned.blk (by omega) ?_; exact NotOwned.nil
  apply qbn; rfl; rfl; rfl; apply Bin.geq
  apply qmv; rfl; rfl
  apply QL.op; exact Guard.yes rfl rfl; rfl; rfl; apply Pev.fld; rfl; exact yes; rfl
  apply QL.op; exact Guard.yes rfl rfl; rfl; rfl; apply Pev.load_blk; rfl; exact fun h => h; exact .head _; rfl; rfl
  apply QL.op; exact Guard.yes rfl rfl; rfl; rfl; apply Pev.len_slice; rfl; exact fun h => h; rfl
  apply QL.op; exact Guard.yes rfl rfl; rfl; rfl; apply Pev.fld; rfl; exact yes; rfl
  apply QL.op; exact Guard.yes rfl rfl; rfl; rfl; apply Pev.load_blk; rfl; exact fun h => h; exact .head _; rfl; rfl
  apply QL.op; exact Guard.yes rfl rfl; rfl; rfl; apply Pev.idxArr; rfl; exact yes; rfl; exact fun h => h; rfl; intro hcond; omega; rfl
  apply QL.op; exact Guard.yes rfl rfl; rfl; rfl; apply Pev.load_kept; rfl; exact fun h => h; exact .head _; rfl; intro hcond; assumption; intro hcond; assumption; intro hcond; simp only [add_block]; refine NotOwned.blk (by omega) ?_; refine NotOwned.blk (by omega) ?_; exact NotOwned.nil
  apply QL.op; exact Guard.yes rfl rfl; rfl; rfl; apply Pev.bin; rfl; exact fun h => h; rfl; exact fun h => h; intro hcond; apply Bin.neq
  apply QL.op; exact Guard.none; rfl; rfl; apply Pev.pick_and; rfl; exact yes; rfl; exact fun h => h
  apply qas; rfl; rfl
  apply QL.nil
  with_reducible apply At.next
  (refine W.cond rfl (fun h3 => ?_) (fun h3 => ?_)) <;> (try (simp only [Bool.and_eq_true, Bool.or_eq_true, Bool.not_eq_true', Bool.and_eq_false_iff, Bool.or_eq_false_iff, Bool.not_eq_false', decide_eq_true_eq, decide_eq_false_iff_not, Int.not_lt, Int.not_le] at h3)) <;> (try (exfalso; first | omega | exact h3 trivial | contradiction))
  · apply W.skip
    with_reducible apply At.next
    (refine W.cond rfl (fun h4 => ?_) (fun h4 => ?_)) <;> (try (simp only [Bool.and_eq_true, Bool.or_eq_true, Bool.not_eq_true', Bool.and_eq_false_iff, Bool.or_eq_false_iff, Bool.not_eq_false', decide_eq_true_eq, decide_eq_false_iff_not, Int.not_lt, Int.not_le] at h4)) <;> (try (exfalso; first | omega | exact h4 trivial | contradiction))
    apply W.seq
    apply W.reg
    apply oas; rfl; rfl
    apply OL.nil
    with_reducible apply At.next
    apply W.ret
    with_reducible apply At.in_ret
    with_reducible apply At.then_ret
    ((with_reducible apply At.fin1); rfl; rfl; intro w' hw')
    have he : tyErr (.mk kind name var ts) row depth seen = (seen + 1, 3) := tyErr_err (by unfold nodeErr; grind) (by decide)
    rw [he]
    exact ⟨rfl, by (exact hw'.toKeep (by (repeat (first | exact List.Mem.head _ | apply List.Mem.tail))) (fun k hk (hO : ¬ k = b) => by (focus ((try simp only [add_block]); (repeat (first | exact NotOwned.nil | refine NotOwned.blk (by omega) ?_)); done)))), blk_eq (hw'.item (by (repeat (first | exact List.Mem.head _ | apply List.Mem.tail)))) hleft⟩
  apply W.seq
  apply W.reg
  apply ofa; rfl; rfl; rfl
  apply old; rfl; rfl; exact .head _; rfl; rfl
  apply obn; rfl; rfl; rfl; apply Bin.neq
  apply omv; rfl; rfl
  apply OL.op; exact Guard.yes rfl rfl; rfl; rfl; apply Pev.fld; rfl; exact yes; rfl
  apply OL.op; exact Guard.yes rfl rfl; rfl; rfl; apply Pev.load_blk; rfl; exact fun h => h; exact .head _; rfl; rfl
  apply OL.op; exact Guard.yes rfl rfl; rfl; rfl; apply Pev.bin; rfl; exact fun h => h; rfl; exact yes; intro hcond; apply Bin.neq
  apply OL.op; exact Guard.none; rfl; rfl; apply Pev.pick_and; rfl; exact yes; rfl; exact fun h => h
  apply oas; rfl; rfl
  apply OL.nil
  with_reducible apply At.next
  (refine W.cond rfl (fun h4 => ?_) (fun h4 => ?_)) <;> (try (simp only [Bool.and_eq_true, Bool.or_eq_true, Bool.not_eq_true', Bool.and_eq_false_iff, Bool.or_eq_false_iff, Bool.not_eq_false', decide_eq_true_eq, decide_eq_false_iff_not, Int.not_lt, Int.not_le] at h4)) <;> (try (exfalso; first | omega | exact h4 trivial | contradiction))
  · apply W.skip
    with_reducible apply At.next
    (refine W.cond rfl (fun h5 => ?_) (fun h5 => ?_)) <;> (try (simp only [Bool.and_eq_true, Bool.or_eq_true, Bool.not_eq_true', Bool.and_eq_false_iff, Bool.or_eq_false_iff, Bool.not_eq_false', decide_eq_true_eq, decide_eq_false_iff_not, Int.not_lt, Int.not_le] at h5)) <;> (try (exfalso; first | omega | exact h5 trivial | contradiction))
    apply W.seq
    apply W.reg
    apply oas; rfl; rfl
    apply OL.nil
    with_reducible apply At.next
    apply W.ret
    with_reducible apply At.in_ret
    with_reducible apply At.then_ret
    ((with_reducible apply At.fin1); rfl; rfl; intro w' hw')
    have he : tyErr (.mk kind name var ts) row depth seen = (seen + 1, 3) := tyErr_err (by unfold nodeErr; grind) (by decide)
    rw [he]
    exact ⟨rfl, by (exact hw'.toKeep (by (repeat (first | exact List.Mem.head _ | apply List.Mem.tail))) (fun k hk (hO : ¬ k = b) => by (focus ((try simp only [add_block]); (repeat (first | exact NotOwned.nil | refine NotOwned.blk (by omega) ?_)); done)))), blk_eq (hw'.item (by (repeat (first | exact List.Mem.head _ | apply List.Mem.tail)))) hleft⟩
  apply W.reg
  apply ofa; rfl; rfl; rfl
  apply old; rfl; rfl; exact .head _; rfl; rfl
  apply obn; rfl; rfl; rfl; apply Bin.neq
  apply omv; rfl; rfl
  apply OL.op; exact Guard.yes rfl rfl; rfl; rfl; apply Pev.fld; rfl; exact yes; rfl
  apply OL.op; exact Guard.yes rfl rfl; rfl; rfl; apply Pev.load_blk; rfl; exact fun h => h; exact .head _; rfl; rfl
  apply OL.op; exact Guard.yes rfl rfl; rfl; rfl; apply Pev.bin; rfl; exact fun h => h; rfl; exact yes; intro hcond; apply Bin.neq
  apply OL.op; exact Guard.none; rfl; rfl; apply Pev.pick_and; rfl; exact yes; rfl; exact fun h => h
  apply omv; rfl; rfl
  apply OL.op; exact Guard.yes rfl rfl; rfl; rfl; apply Pev.fld; rfl; exact yes; rfl
  apply OL.op; exact Guard.yes rfl rfl; rfl; rfl; apply Pev.load_blk; rfl; exact fun h => h; exact .head _; rfl; rfl
  apply OL.op; exact Guard.yes rfl rfl; rfl; rfl; apply Pev.bin; rfl; exact fun h => h; rfl; exact yes; intro hcond; apply Bin.str_neq
  apply OL.op; exact Guard.none; rfl; rfl; apply Pev.pick_and; rfl; exact yes; rfl; exact fun h => h
  apply oas; rfl; rfl
  apply OL.nil
  with_reducible apply At.next
  (refine W.cond rfl (fun h5 => ?_) (fun h5 => ?_)) <;> (try (simp only [Bool.and_eq_true, Bool.or_eq_true, Bool.not_eq_true', Bool.and_eq_false_iff, Bool.or_eq_false_iff, Bool.not_eq_false', decide_eq_true_eq, decide_eq_false_iff_not, Int.not_lt, Int.not_le] at h5)) <;> (try (exfalso; first | omega | exact h5 trivial | contradiction))
  · apply W.seq
    apply W.reg
    apply oas; rfl; rfl
    apply OL.nil
    with_reducible apply At.next
    apply W.ret
    with_reducible apply At.in_ret
    with_reducible apply At.then_ret
    ((with_reducible apply At.fin1); rfl; rfl; intro w' hw')
    have he : tyErr (.mk kind name var ts) row depth seen = (seen + 1, 3) := tyErr_err (by unfold nodeErr; grind) (by decide)
    rw [he]
    exact ⟨rfl, by (exact hw'.toKeep (by (repeat (first | exact List.Mem.head _ | apply List.Mem.tail))) (fun k hk (hO : ¬ k = b) => by (focus ((try simp only [add_block]); (repeat (first | exact NotOwned.nil | refine NotOwned.blk (by omega) ?_)); done)))), blk_eq (hw'.item (by (repeat (first | exact List.Mem.head _ | apply List.Mem.tail)))) hleft⟩
  apply W.seq
  apply W.reg
  apply ofa; rfl; rfl; rfl
  apply old; rfl; rfl; exact .head _; rfl; rfl
  apply obn; rfl; rfl; rfl; apply Bin.neq
  apply omv; rfl; rfl
  apply OL.op; exact Guard.yes rfl rfl; rfl; rfl; apply Pev.move; rfl; exact yes
  apply OL.op; exact Guard.yes rfl rfl; rfl; rfl; apply Pev.fld; rfl; exact yes; rfl
  apply OL.op; exact Guard.yes rfl rfl; rfl; rfl; apply Pev.load_blk; rfl; exact fun h => h; exact .head _; rfl; rfl
  apply OL.op; exact Guard.yes rfl rfl; rfl; rfl; apply Pev.bin; rfl; exact fun h => h; rfl; exact yes; intro hcond; apply Bin.geq
  apply OL.op; exact Guard.yes rfl rfl; rfl; rfl; apply Pev.bin; rfl; exact fun h => h; rfl; exact fun h => h; intro hcond; apply Bin.bool_neq; rfl
  apply OL.op; exact Guard.none; rfl; rfl; apply Pev.pick_and; rfl; exact yes; rfl; exact fun h => h
  apply oas; rfl; rfl
  apply OL.nil
  with_reducible apply At.next
  (refine W.cond rfl (fun h6 => ?_) (fun h6 => ?_)) <;> (try (simp only [Bool.and_eq_true, Bool.or_eq_true, Bool.not_eq_true', Bool.and_eq_false_iff, Bool.or_eq_false_iff, Bool.not_eq_false', decide_eq_true_eq, decide_eq_false_iff_not, Int.not_lt, Int.not_le] at h6)) <;> (try (exfalso; first | omega | exact h6 trivial | contradiction))
  · apply W.seq
    apply W.reg
    apply oas; rfl; rfl
    apply OL.nil
    with_reducible apply At.next
    apply W.ret
    with_reducible apply At.in_ret
    with_reducible apply At.then_ret
    ((with_reducible apply At.fin1); rfl; rfl; intro w' hw')
    have he : tyErr (.mk kind name var ts) row depth seen = (seen + 1, 9) := tyErr_err (by unfold nodeErr; grind) (by decide)
    rw [he]
    exact ⟨rfl, by (exact hw'.toKeep (by (repeat (first | exact List.Mem.head _ | apply List.Mem.tail))) (fun k hk (hO : ¬ k = b) => by (focus ((try simp only [add_block]); (repeat (first | exact NotOwned.nil | refine NotOwned.blk (by omega) ?_)); done)))), blk_eq (hw'.item (by (repeat (first | exact List.Mem.head _ | apply List.Mem.tail)))) hleft⟩
  apply W.seq
  apply W.reg
  apply ofa; rfl; rfl; rfl
  apply old; rfl; rfl; exact .head _; rfl; rfl
  apply obn; rfl; rfl; rfl; apply Bin.eql
  apply omv; rfl; rfl
  apply OL.op; exact Guard.yes rfl rfl; rfl; rfl; apply Pev.fld; rfl; exact yes; rfl
  apply OL.op; exact Guard.yes rfl rfl; rfl; rfl; apply Pev.load_blk; rfl; exact fun h => h; exact .head _; rfl; rfl
  apply OL.op; exact Guard.yes rfl rfl; rfl; rfl; apply Pev.bin; rfl; exact fun h => h; rfl; exact yes; intro hcond; apply Bin.lss
  apply OL.op; exact Guard.yes rfl rfl; rfl; rfl; apply Pev.move; rfl; exact fun h => h
  apply OL.op; exact Guard.cno rfl rfl; rfl; rfl; apply Pev.fld; rfl; exact yes; rfl
  apply OL.op; exact Guard.cno rfl rfl; rfl; rfl; apply Pev.load_blk; rfl; exact fun h => h; exact .head _; rfl; rfl
  apply OL.op; exact Guard.cno rfl rfl; rfl; rfl; apply Pev.bin; rfl; exact fun h => h; rfl; exact yes; intro hcond; apply Bin.geq
  apply OL.op; exact Guard.yes rfl rfl; rfl; rfl; apply Pev.pick_or; rfl; exact fun h => h; rfl; exact fun h => h
  apply OL.op; exact Guard.none; rfl; rfl; apply Pev.pick_and; rfl; exact yes; rfl; exact fun h => h
  apply oas; rfl; rfl
  apply OL.nil
  with_reducible apply At.next
  (refine W.cond rfl (fun h7 => ?_) (fun h7 => ?_)) <;> (try (simp only [Bool.and_eq_true, Bool.or_eq_true, Bool.not_eq_true', Bool.and_eq_false_iff, Bool.or_eq_false_iff, Bool.not_eq_false', decide_eq_true_eq, decide_eq_false_iff_not, Int.not_lt, Int.not_le] at h7)) <;> (try (exfalso; first | omega | exact h7 trivial | contradiction))
  · apply W.seq
    apply W.reg
    apply oas; rfl; rfl
    apply OL.nil
    with_reducible apply At.next
    apply W.ret
    with_reducible apply At.in_ret
    with_reducible apply At.then_ret
    ((with_reducible apply At.fin1); rfl; rfl; intro w' hw')
    have he : tyErr (.mk kind name var ts) row depth seen = (seen + 1, 4) := tyErr_err (by unfold nodeErr; grind) (by decide)
    rw [he]
    exact ⟨rfl, by (exact hw'.toKeep (by (repeat (first | exact List.Mem.head _ | apply List.Mem.tail))) (fun k hk (hO : ¬ k = b) => by (focus ((try simp only [add_block]); (repeat (first | exact NotOwned.nil | refine NotOwned.blk (by omega) ?_)); done)))), blk_eq (hw'.item (by (repeat (first | exact List.Mem.head _ | apply List.Mem.tail)))) hleft⟩
  have hok : tyErr (.mk kind name var ts) row depth seen = tyErrs kind ts 0 depth (seen + 1) := tyErr_ok (by unfold nodeErr; grind)
  apply W.skip
  with_reducible apply At.in_normal
  with_reducible apply At.next
  apply W.seq
  apply W.seq
  apply W.reg
  apply ofa; rfl; rfl; rfl
  apply old; rfl; rfl; exact .head _; rfl; rfl
  apply OL.op; exact Guard.none; rfl; rfl; apply Pev.len_slice; rfl; exact yes; rfl
  apply omv; rfl; rfl
  apply OL.nil
  with_reducible apply At.next
  apply W.block
  refine W.loop (G := Nat × Int) (fun g => g.1 ≤ ts.length ∧ 0 ≤ g.2 ∧ g.2 ≤ 4096 ∧ tyErrs kind (ts.drop g.1) g.1 depth g.2 = tyErrs kind ts 0 depth (seen + 1)) (fun g => ts.length - g.1)
    (fun g => [(104, true, .int .i64 (g.1 : Int)), (103, true, .int .i64 ts.length), (102, true, .slice q ts.length cap), (5, true, .pointer (some ⟨bk, 0, none⟩)), (0, true, .pointer (some ⟨b, 0, none⟩)), (3, true, .int .i64 depth)])
    (fun g => Cls [blk bk 24 [.int .i64 kind, .string name, .int .i64 var, .slice q ts.length cap], blk b 54 [.int .i64 (4096 - g.2)]] [w]) (0, seen + 1) ⟨by omega, by omega, by omega, rfl⟩ (by (repeat (first | exact Sub.nil | apply Sub.cons rfl))) (fun w' hw' => by rw [hleft] at hw'; exact hw') ?_
  rintro ⟨i, sn⟩ ⟨hi, hsn0, hsn1, hrest⟩
  simp only at hi hsn0 hsn1 hrest
  simp only
  apply W.seq
  apply W.reg
  apply obn; rfl; rfl; rfl; apply Bin.lss
  apply OL.nil
  with_reducible apply At.next
  apply W.seq
  (refine W.cond rfl (fun hlt => ?_) (fun hlt => ?_)) <;> (try (simp only [Bool.and_eq_true, Bool.or_eq_true, Bool.not_eq_true', Bool.and_eq_false_iff, Bool.or_eq_false_iff, Bool.not_eq_false', decide_eq_true_eq, decide_eq_false_iff_not, Int.not_lt, Int.not_le] at hlt)) <;> (try (exfalso; first | omega | exact hlt trivial | contradiction))
  · have hil : i < ts.length := by omega
    obtain ⟨a, rfl, hab, hall⟩ := hq (by omega)
    obtain ⟨u, hu⟩ : ∃ u, ts[i]? = some u := ⟨_, List.getElem?_eq_getElem hil⟩
    obtain ⟨cs, hcs, hty⟩ := hall.get hu
    have hty' := hty
    have husz := Ty.sz_get hu
    have hmsz : Ty.szs ts + 1 ≤ m + 1 := by simpa only [Ty.sz] using hm
    obtain ⟨uk, un, uv, ua⟩ := u
    simp only [TyC] at hty'
    obtain ⟨uq, ucap, rfl, huk, huv, hulen, _⟩ := hty'
    unfold I64 at huk huv
    rw [tyErrs_drop_mk kind ts i hu] at hrest
    have hseen := tyErr_seen (.mk uk un uv ua) (wantRow kind i uk) (depth + 1) sn hsn0 hsn1
    have hal : a.block < w.heap.size := by omega
    have key : ∀ r, r = wantRow kind i uk → ∀ w2 bk2, w.heap.size ≤ bk2 → Cls [blk bk2 24 [.int .i64 uk, .string un, .int .i64 uv, .slice uq ua.length ucap], blk bk 24 [.int .i64 kind, .string name, .int .i64 var, .slice (some a) ts.length cap], blk b 54 [.int .i64 (4096 - sn)]] [w] w2 →
        Calls Tryd.prog 17 [.pointer (some ⟨b, 0, none⟩), .agg #[.int .i64 uk, .string un, .int .i64 uv, .slice uq ua.length ucap], .bool r, .int .i64 (depth + 1)].toArray w2 fun e w' =>
          e = .returned (.int .i64 (tyErr (.mk uk un uv ua) (wantRow kind i uk) (depth + 1) sn).2) ∧ Cls [blk bk2 24 [.int .i64 uk, .string un, .int .i64 uv, .slice uq ua.length ucap], blk bk 24 [.int .i64 kind, .string name, .int .i64 var, .slice (some a) ts.length cap], blk b 54 [.int .i64 (4096 - (tyErr (.mk uk un uv ua) (wantRow kind i uk) (depth + 1) sn).1)]] [w] w' := by
      rintro r rfl w2 bk2 hbk2 hw2
      have hbel := hw2.below (s := w) (by (repeat (first | exact List.Mem.head _ | apply List.Mem.tail))) (show B ≤ w.heap.size by omega) (fun k hk => by (focus ((try simp only [add_block]); (repeat (first | exact NotOwned.nil | refine NotOwned.blk (by omega) ?_)); done)))
      refine (ih (.mk uk un uv ua) (wantRow kind i uk) (depth + 1) sn _ w2 B b (by omega) (TyC.keep hbel (Nat.le_refl _) hty) hgB hBb (hsz.keep hgB hbel) (hw2.item (by (repeat (first | exact List.Mem.head _ | apply List.Mem.tail)))) (by omega) (by omega) hsn0 hsn1).mono (fun e w3 h => ⟨h.1, hw2.turn_blk (p := 2) (by (repeat (first | apply Swap.z | apply Swap.s))) h.2.1 h.2.2⟩)
    apply W.skip
    with_reducible apply At.next
    apply W.seq
    apply W.block
    apply W.seq
    apply W.reg
    apply omv; rfl; rfl
    apply OL.op; exact Guard.none; rfl; rfl; apply Pev.idx; rfl; exact yes; rfl; exact yes; rfl; rfl; intro hcond; omega
    apply OL.op; exact Guard.none; rfl; rfl; apply Pev.load_keptA; rfl; exact yes; exact .head _; rfl; intro hcond; assumption; rfl; intro hcond; (rw [add_block]; assumption); intro hcond; simp only [add_block]; refine NotOwned.blk (by omega) ?_; refine NotOwned.blk (by omega) ?_; exact NotOwned.nil
    apply OL.alloc; rfl; rfl; exact CellsL.agg; (intro bk hbk; simp only [AllLe, and_true] at hbk)
    apply oas; rfl; rfl
    apply OL.storeB; rfl; rfl; exact CellsL.agg; rfl; rfl; rfl; apply Swap.z; apply Put.here; apply Over.cons; apply Over.cons; apply Over.cons; apply Over.cons; apply Over.nil
    apply OL.nil
    with_reducible apply At.next
    apply W.seq
    apply W.reg
    apply ofa; rfl; rfl; rfl
    apply old; rfl; rfl; exact .tail _ (.head _); rfl; rfl
    apply obn; rfl; rfl; rfl; apply Bin.eql
    apply omv; rfl; rfl
    apply OL.op; exact Guard.yes rfl rfl; rfl; rfl; apply Pev.move; rfl; exact yes
    apply OL.op; exact Guard.yes rfl rfl; rfl; rfl; apply Pev.bin; rfl; exact fun h => h; rfl; exact yes; intro hcond; apply Bin.eql
    apply OL.op; exact Guard.none; rfl; rfl; apply Pev.pick_and; rfl; exact yes; rfl; exact fun h => h
    apply omv; rfl; rfl
    apply OL.op; exact Guard.no rfl rfl; rfl; rfl; apply Pev.fld; rfl; exact yes; rfl
    apply OL.op; exact Guard.no rfl rfl; rfl; rfl; apply Pev.load_blk; rfl; exact fun h => h; exact .tail _ (.head _); rfl; rfl
    apply OL.op; exact Guard.no rfl rfl; rfl; rfl; apply Pev.bin; rfl; exact fun h => h; rfl; exact yes; intro hcond; apply Bin.eql
    apply OL.op; exact Guard.none; rfl; rfl; apply Pev.pick_or; rfl; exact yes; rfl; exact fun h => h
    apply omv; rfl; rfl
    apply OL.op; exact Guard.no rfl rfl; rfl; rfl; apply Pev.fld; rfl; exact yes; rfl
    apply OL.op; exact Guard.no rfl rfl; rfl; rfl; apply Pev.load_blk; rfl; exact fun h => h; exact .tail _ (.head _); rfl; rfl
    apply OL.op; exact Guard.no rfl rfl; rfl; rfl; apply Pev.bin; rfl; exact fun h => h; rfl; exact yes; intro hcond; apply Bin.eql
    apply OL.op; exact Guard.no rfl rfl; rfl; rfl; apply Pev.move; rfl; exact fun h => h
    apply OL.op; exact Guard.cyes rfl rfl; rfl; rfl; apply Pev.move; rfl; exact yes
    apply OL.op; exact Guard.cyes rfl rfl; rfl; rfl; apply Pev.bin; rfl; exact fun h => h; rfl; exact yes; intro hcond; apply Bin.eql
    apply OL.op; exact Guard.no rfl rfl; rfl; rfl; apply Pev.pick_and; rfl; exact fun h => h; rfl; exact fun h => h
    apply OL.op; exact Guard.none; rfl; rfl; apply Pev.pick_or; rfl; exact yes; rfl; exact fun h => h
    apply oas; rfl; rfl
    apply OL.nil
    with_reducible apply At.next
    apply W.seq
    apply W.seq
    apply W.reg
    apply ofa; rfl; rfl; rfl
    apply old; rfl; rfl; exact .tail _ (.head _); rfl; rfl
    apply obn; rfl; rfl; rfl; apply Bin.eql
    apply OL.nil
    with_reducible apply At.next
    (refine W.cond rfl (fun hc => ?_) (fun hc => ?_)) <;> (try (simp only [Bool.and_eq_true, Bool.or_eq_true, Bool.not_eq_true', Bool.and_eq_false_iff, Bool.or_eq_false_iff, Bool.not_eq_false', decide_eq_true_eq, decide_eq_false_iff_not, Int.not_lt, Int.not_le] at hc)) <;> (try (exfalso; first | omega | exact hc trivial | contradiction))
    all_goals
      first
      | ((apply W.reg); (apply ofa; rfl; rfl; rfl); (apply old; rfl; rfl; exact .head _; rfl; rfl); (apply obn; rfl; rfl; rfl; apply Bin.geq); (apply oas; rfl; rfl); (apply OL.nil); (with_reducible apply At.next); (apply W.seq); (apply W.reg); (apply omv; rfl; rfl); (apply OL.op; exact Guard.none; rfl; rfl; apply Pev.load_blkA; rfl; exact yes; exact .head _; rfl; apply Take.succ; apply Take.succ; apply Take.succ; apply Take.succ; apply Take.zero); (apply omv; rfl; rfl); (apply omv; rfl; rfl); (apply obn; rfl; rfl; rfl; apply Bin.add_in; omega))
      | ((apply W.skip); (with_reducible apply At.next); (apply W.seq); (apply W.reg); (apply omv; rfl; rfl); (apply OL.op; exact Guard.none; rfl; rfl; apply Pev.load_blkA; rfl; exact yes; exact .head _; rfl; apply Take.succ; apply Take.succ; apply Take.succ; apply Take.succ; apply Take.zero); (apply omv; rfl; rfl); (apply omv; rfl; rfl); (apply obn; rfl; rfl; rfl; apply Bin.add_in; omega))
      ((with_reducible apply OL.callF); rfl; rfl; ((repeat (first | exact Args.nil | (apply Args.cons rfl; ((first | exact fun _ => rfl | exact fun h => h | (intro h; simp_all; done))))))); (exact fun w2 hw2 => key _ (by simp [wantRow, hc]; try grind) w2 _ (by assumption) hw2))
      apply oas; rfl; rfl
      apply OL.nil
      with_reducible apply At.next
      apply W.seq
      apply W.reg
      apply omv; rfl; rfl
      apply obn; rfl; rfl; rfl; apply Bin.neq
      apply OL.nil
      with_reducible apply At.next
      (refine W.cond rfl (fun herr => ?_) (fun herr => ?_)) <;> (try (simp only [Bool.and_eq_true, Bool.or_eq_true, Bool.not_eq_true', Bool.and_eq_false_iff, Bool.or_eq_false_iff, Bool.not_eq_false', decide_eq_true_eq, decide_eq_false_iff_not, Int.not_lt, Int.not_le] at herr)) <;> (try (exfalso; first | omega | exact herr trivial | contradiction))
      · apply W.seq
        apply W.reg
        apply omv; rfl; rfl
        apply oas; rfl; rfl
        apply OL.nil
        with_reducible apply At.next
        apply W.ret
        with_reducible apply At.in_ret
        with_reducible apply At.then_ret
        with_reducible apply At.then_ret
        with_reducible apply At.in_ret
        with_reducible apply At.then_ret
        ((with_reducible apply At.fin1); rfl; rfl; intro w' hw')
        rw [if_neg herr] at hrest
        refine ⟨by rw [hok, ← hrest], by (exact hw'.toKeep (by (repeat (first | exact List.Mem.head _ | apply List.Mem.tail))) (fun k hk (hO : ¬ k = b) => by (focus ((try simp only [add_block]); (repeat (first | exact NotOwned.nil | refine NotOwned.blk (by omega) ?_)); done)))), ?_⟩
        rw [hok, ← hrest]
        exact hw'.item (by (repeat (first | exact List.Mem.head _ | apply List.Mem.tail)))
      · rw [if_pos herr] at hrest
        apply W.skip
        with_reducible apply At.in_normal
        with_reducible apply At.next
        apply W.reg
        apply obn; rfl; rfl; rfl; apply Bin.add_in; omega
        apply omv; rfl; rfl
        apply OL.nil
        exact At.again (i + 1, (tyErr (.mk uk un uv ua) (wantRow kind i uk) (depth + 1) sn).1) ⟨by dsimp only; omega, by dsimp only; omega, (hseen.2.2 herr).1, hrest⟩ (by dsimp only; omega) (by (repeat (first | exact Sub.nil | apply Sub.cons rfl))) (fun w' hw' => hw'.thin (by (repeat (first | exact Thin.nil | apply Thin.keep | (refine Thin.blk (by simp only [AllLe, and_true]; omega) ?_)))))
  · apply W.exit
    with_reducible apply At.then_exit
    with_reducible apply At.then_exit
    with_reducible apply At.in_exit
    with_reducible apply At.next
    apply W.seq
    apply W.reg
    apply oas; rfl; rfl
    apply OL.nil
    with_reducible apply At.next
    apply W.ret
    ((with_reducible apply At.fin1); rfl; rfl; intro w' hw')
    obtain rfl : i = ts.length := by omega
    rw [List.drop_length, tyErrs] at hrest
    refine ⟨by rw [hok, ← hrest], by (exact hw'.toKeep (by (repeat (first | exact List.Mem.head _ | apply List.Mem.tail))) (fun k hk (hO : ¬ k = b) => by (focus ((try simp only [add_block]); (repeat (first | exact NotOwned.nil | refine NotOwned.blk (by omega) ?_)); done)))), ?_⟩
    rw [hok, ← hrest]
    exact hw'.item (by (repeat (first | exact List.Mem.head _ | apply List.Mem.tail)))
end Go.Proofs.YtaponemcbnnebaaDoor.uc
