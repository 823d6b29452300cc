/- The walk of the reference's isOf. Conditions: none. -/
import Derived.Test.YtlcclcakdfmgkaaPkD
import Derived.Test.YtlcclcakdfmgkaaStr
import Derived.Lib.IndexAny
import Derived.Test.YtlcclcakdfmgkaaSh
import Derived.Shelf.Small.Strs
namespace Go.Proofs.Ytlcclcakdfmgkaa.pk
open Go.RowKit Go.Eng Go.Pk Go.Shelf
set_option linter.unusedVariables false
set_option linter.unusedSimpArgs false
set_option maxRecDepth 100000

theorem indexByte_calls (s : ByteArray) (c : Int) (w : World) :
    Calls Try.prog 75 #[.string s, .int .u8 c] w fun e w' => e = .returned (.int .i64 (Lib.indexByte s.data.toList c.toNat.toUInt8)) ∧ w' = w := Any.strings_IndexByte Try.lays137 s c w

theorem one_calls (L : List Int) (k : Int) (q : Option Addr) (cap b : Nat) (w : World) (hlen : L.length ≤ 9223372036854775806) (h : SlAt w w.heap.size q (ins L)) (hb : b < w.heap.size) (hk : w.cell? ⟨b, 0, .none⟩ = some (.int .i64 k)) :
    Calls Try.prog 76 #[.slice q L.length cap, .pointer (some ⟨b, 0, .none⟩)] w fun e w' => e = .returned (.bool (inL L k)) ∧ Ext w w' := by
  refine enter Try.func76 rfl Try.ntmps76 rfl (Cls.start w) ?_
  (simp only [argEnv, Nat.zero_add, Nat.reduceAdd])
  apply W.seq
  apply W.reg
  apply oas; rfl; rfl
  apply OL.nil
  with_reducible apply At.next
  apply W.seq
  apply W.seq
  apply W.reg
  apply omv; rfl; rfl
  apply OL.op; exact Guard.none; rfl; rfl; apply Pev.len_slice; rfl; exact yes; rfl
  apply omv; rfl; rfl
  apply OL.nil
  with_reducible apply At.next
  apply W.block
  refine W.loop (G := Nat) (fun i => i ≤ L.length ∧ inL (L.drop i) k = inL L k) (fun i => L.length - i)
    (fun i => [(8, true, .int .i64 (i : Int)), (7, true, .int .i64 (L.length : Int)), (6, true, .slice q L.length cap), (1, true, .pointer (some ⟨b, 0, .none⟩))])
    (fun i => Cls [] [w]) 0 ⟨by omega, rfl⟩ (by (repeat (first | exact Sub.nil | apply Sub.cons rfl | (refine Sub.cons_eq rfl (congrArg (Value.int .i64) (by first | omega | (simp only; omega))) ?_)))) (fun w' hw' => hw') ?_
  rintro i ⟨hi, hrest⟩
  apply W.seq
  apply W.reg
  apply obn; rfl; rfl; rfl; apply Bin.lss
  apply OL.nil
  with_reducible apply At.next
  apply W.seq
  (refine W.cond rfl (fun hlt => ?_) (fun hlt => ?_)) <;> (try (simp only [Bool.and_eq_true, Bool.or_eq_true, Bool.not_eq_true', Bool.and_eq_false_iff, Bool.or_eq_false_iff, Bool.not_eq_false', decide_eq_true_eq, decide_eq_false_iff_not, Int.not_lt, Int.not_le] at hlt)) <;> (try (exfalso; first | omega | exact hlt trivial | contradiction))
  · obtain ⟨a, x, rfl, hab, hx, hcell⟩ := SlAt.int h (show i < L.length by omega)
    have hil : i < L.length := by omega
    have hu : inL (L.drop i) k = (decide (x = k) || inL (L.drop (i + 1)) k) := by
      rw [List.drop_eq_getElem_cons hil]
      rw [List.getElem?_eq_getElem hil] at hx
      rw [Option.some.inj hx]; rfl
    rw [hu] at hrest
    apply W.skip
    with_reducible apply At.next
    apply W.seq
    apply W.block
    apply W.seq
    apply W.reg
    apply OL.op; exact Guard.none; rfl; rfl; apply Pev.idx; rfl; exact yes; rfl; exact yes; rfl; rfl; intro hcond; omega
    apply OL.op; exact Guard.none; rfl; rfl; apply Pev.load_kept; rfl; exact yes; exact .head _; rfl; intro hcond; assumption; intro hcond; (rw [add_block]; assumption); intro hcond; exact NotOwned.nil
    apply oas; rfl; rfl
    apply OL.nil
    with_reducible apply At.next
    apply W.seq
    apply W.reg
    apply omv; rfl; rfl
    apply OL.op; exact Guard.none; rfl; rfl; apply Pev.load_kept; rfl; exact yes; exact .head _; rfl; intro hcond; assumption; intro hcond; assumption; intro hcond; exact NotOwned.nil
    apply obn; rfl; rfl; rfl; apply Bin.eql
    apply OL.nil
    with_reducible apply At.next
    (refine W.cond rfl (fun heq => ?_) (fun heq => ?_)) <;> (try (simp only [Bool.and_eq_true, Bool.or_eq_true, Bool.not_eq_true', Bool.and_eq_false_iff, Bool.or_eq_false_iff, Bool.not_eq_false', decide_eq_true_eq, decide_eq_false_iff_not, Int.not_lt, Int.not_le] at heq)) <;> (try (exfalso; first | omega | exact heq trivial | contradiction))
    · apply W.seq
      apply W.reg
      apply oas; rfl; rfl
      apply OL.nil
      with_reducible apply At.next
      apply W.ret
      with_reducible apply At.in_ret
      with_reducible apply At.then_ret
      with_reducible apply At.then_ret
      with_reducible apply At.in_ret
      with_reducible apply At.then_ret
      ((with_reducible apply At.fin1); rfl; rfl; intro w' hw')
      exact ⟨by rw [← hrest, decide_eq_true heq]; rfl, by (exact hw'.toExt (by (repeat (first | exact List.Mem.head _ | apply List.Mem.tail))) (fun k hk => by (focus ((try simp only [add_block]); (repeat (first | exact NotOwned.nil | exact hno _ (by omega) | refine NotOwned.nothing ?_ | refine NotOwned.nds (hlow _ (by omega)) ?_ | refine NotOwned.mapS (by omega) ?_ | apply NotOwned.bif | refine NotOwned.blk (by omega) ?_ | refine NotOwned.row (by omega) ?_ | refine NotOwned.grid (by assumption) (by omega) ?_)); done))))⟩
    · apply W.skip
      with_reducible apply At.in_normal
      with_reducible apply At.next
      apply W.reg
      apply obn; rfl; rfl; rfl; apply Bin.add_in; omega
      apply omv; rfl; rfl
      apply OL.nil
      rw [decide_eq_false heq] at hrest
      exact At.again (i + 1) ⟨by omega, by simpa using hrest⟩ (by omega) (by (repeat (first | exact Sub.nil | apply Sub.cons rfl | (refine Sub.cons_eq rfl (congrArg (Value.int .i64) (by first | omega | (simp only; omega))) ?_)))) (fun w' hw' => hw')
  · rw [List.drop_eq_nil_of_le (by omega)] at hrest
    apply W.exit
    with_reducible apply At.then_exit
    with_reducible apply At.then_exit
    with_reducible apply At.in_exit
    with_reducible apply At.next
    apply W.seq
    apply W.reg
    apply oas; rfl; rfl
    apply OL.nil
    with_reducible apply At.next
    apply W.ret
    ((with_reducible apply At.fin1); rfl; rfl; intro w' hw')
    exact ⟨by rw [← hrest]; rfl, by (exact hw'.toExt (by (repeat (first | exact List.Mem.head _ | apply List.Mem.tail))) (fun k hk => by (focus ((try simp only [add_block]); (repeat (first | exact NotOwned.nil | exact hno _ (by omega) | refine NotOwned.nothing ?_ | refine NotOwned.nds (hlow _ (by omega)) ?_ | refine NotOwned.mapS (by omega) ?_ | apply NotOwned.bif | refine NotOwned.blk (by omega) ?_ | refine NotOwned.row (by omega) ?_ | refine NotOwned.grid (by assumption) (by omega) ?_)); done))))⟩
theorem u8_eq {c : UInt8} {n : Nat} (h : (c.toNat : Int) = (n : Int)) (hn : n < 256) : c = n.toUInt8 := by
  apply UInt8.toNat_inj.1
  simp
  omega
/-- the letters of a single kind -/
theorem single_letter {c : UInt8} (hc : c ∈ letters) (h1 : ¬ (c.toNat : Int) = 68) (h2 : ¬ (c.toNat : Int) = 84) (h3 : ¬ (c.toNat : Int) = 69) (h4 : ¬ (c.toNat : Int) = 88) (h5 : ¬ (c.toNat : Int) = 80) (h6 : ¬ (c.toNat : Int) = 86) (h7 : ¬ (c.toNat : Int) = 98) (h8 : ¬ (c.toNat : Int) = 104) :
    ∃ (m : Nat) (x : Int), Lib.indexByte [110, 118, 99, 111, 115, 113, 100, 114, 102, 97] ((c.toNat : Int)).toNat.toUInt8 = (m : Int) ∧ m < 10 ∧ ([.int .i64 3, .int .i64 14, .int .i64 6, .int .i64 8, .int .i64 12, .int .i64 11, .int .i64 13, .int .i64 18, .int .i64 19, .int .i64 28] : List Value)[m]? = some (.int .i64 x) ∧ clsOf c = [x] := by
  simp only [letters, List.mem_cons, List.not_mem_nil, or_false] at hc
  rcases hc with rfl | rfl | rfl | rfl | rfl | rfl | rfl | rfl | rfl | rfl | rfl | rfl | rfl | rfl | rfl | rfl | rfl | rfl
  · exact absurd rfl h1
  · exact absurd rfl h2
  · exact absurd rfl h3
  · exact absurd rfl h4
  · exact absurd rfl h5
  · exact absurd rfl h6
  · exact absurd rfl h7
  · exact absurd rfl h8
  · exact ⟨0, 3, by decide, by decide, rfl, by decide⟩
  · exact ⟨1, 14, by decide, by decide, rfl, by decide⟩
  · exact ⟨2, 6, by decide, by decide, rfl, by decide⟩
  · exact ⟨3, 8, by decide, by decide, rfl, by decide⟩
  · exact ⟨4, 12, by decide, by decide, rfl, by decide⟩
  · exact ⟨5, 11, by decide, by decide, rfl, by decide⟩
  · exact ⟨6, 13, by decide, by decide, rfl, by decide⟩
  · exact ⟨7, 18, by decide, by decide, rfl, by decide⟩
  · exact ⟨8, 19, by decide, by decide, rfl, by decide⟩
  · exact ⟨9, 28, by decide, by decide, rfl, by decide⟩
theorem blk_slat {w : World} {b : Nat} {t : TypeId} {L : List Int} (h : (blk b t (ins L)).holds w) : SlAt w w.heap.size (some ⟨b, 0, .none⟩) (ins L) :=
  SlAt.of_blk (o := 0) h (fun j v hj => by rw [Nat.zero_add]; exact hj)
/- printed -/
theorem isOf0_calls (c : UInt8) (k : Int) (w : World) (hc : c ∈ letters) (hX : ¬ (c.toNat : Int) = 88) :
    Calls Try.prog 63 #[.int .u8 (c.toNat : Int), .int .i64 k] w fun e w' => e = .returned (.bool (P1 c k)) ∧ Ext w w' := by
  refine enter Try.func63 rfl Try.ntmps63 rfl (Cls.start w) ?_
  (simp only [argEnv, Nat.zero_add, Nat.reduceAdd])
  apply W.seq
  apply W.reg
  apply OL.box; rfl; rfl; exact CellsL.one rfl; (intro bk hbk; simp only [AllLe, and_true] at hbk)
  apply oas; rfl; rfl
  apply OL.nil
  with_reducible apply At.next
  apply W.seq
  apply W.reg
  apply OL.op; exact Guard.none; rfl; rfl; apply Pev.makeFunc; exact Args.nil; apply Args.cons rfl; exact yes; exact Args.nil
  apply oas; rfl; rfl
  apply OL.nil
  with_reducible apply At.next
  apply W.seq
  apply W.seq
  apply W.reg
  apply omv; rfl; rfl
  apply OL.nil
  with_reducible apply At.next
  apply W.block
  apply W.seq
  apply W.reg
  apply obn; rfl; rfl; rfl; apply Bin.eql
  apply oas; rfl; rfl
  apply OL.nil
  with_reducible apply At.next
  revert bk
  intro b3 hb3
  (refine W.cond rfl (fun h68 => ?_) (fun h68 => ?_)) <;> (try (simp only [Bool.and_eq_true, Bool.or_eq_true, Bool.not_eq_true', Bool.and_eq_false_iff, Bool.or_eq_false_iff, Bool.not_eq_false', decide_eq_true_eq, decide_eq_false_iff_not, Int.not_lt, Int.not_le] at h68)) <;> (try (exfalso; first | omega | exact h68 trivial | contradiction))
  · have e : clsOf c = declL := by rw [u8_eq (n := 68) h68 (by decide)]; decide
    unfold P1
    rw [e]
    apply W.seq
    apply W.reg
    apply omv; rfl; rfl
    apply OL.buildSlice; rfl; rfl; rfl; apply Elems.cons rfl; exact CellsL.one rfl; rfl; apply Elems.cons rfl; exact CellsL.one rfl; rfl; apply Elems.cons rfl; exact CellsL.one rfl; rfl; apply Elems.cons rfl; exact CellsL.one rfl; rfl; apply Elems.cons rfl; exact CellsL.one rfl; rfl; apply Elems.cons rfl; exact CellsL.one rfl; rfl; apply Elems.cons rfl; exact CellsL.one rfl; rfl; apply Elems.cons rfl; exact CellsL.one rfl; rfl; apply Elems.cons rfl; exact CellsL.one rfl; rfl; apply Elems.nil; apply App.cons; apply App.nil; apply App.cons; apply App.nil; apply App.cons; apply App.nil; apply App.cons; apply App.nil; apply App.cons; apply App.nil; apply App.cons; apply App.nil; apply App.cons; apply App.nil; apply App.cons; apply App.nil; apply App.cons; apply App.nil; rfl; rfl; (intro bk hbk; simp only [AllLe, and_true] at hbk)
    (((first | (with_reducible apply OL.op) | (with_reducible apply QL.op)); ((first | exact Guard.none | exact Guard.yes rfl rfl | exact Guard.no rfl rfl | exact Guard.cyes rfl rfl | exact Guard.cno rfl rfl)); rfl; rfl); (apply Pev.callv (first := []) (cap := [.pointer (some ⟨b3, 0, .none⟩)])); rfl; ((first | exact fun _ => rfl | exact fun h => h | (intro h; simp_all; done))); rfl; ((repeat (first | exact Args.nil | (apply Args.cons rfl; ((first | exact fun _ => rfl | exact fun h => h | (intro h; simp_all; done))))))); (exact (fun _ w2 hw2 => (one_calls declL k (some ⟨bk, 0, .none⟩) 9 b3 w2 (by decide) (blk_slat (hw2.item (.head _))) (blk_lt (hw2.item (.tail _ (.head _)))) (blk_cell (hw2.item (.tail _ (.head _))))).mono (fun e w3 h => ⟨h.1, hw2.ext h.2⟩))))
    apply oas; rfl; rfl
    apply OL.nil
    with_reducible apply At.next
    apply W.ret
    with_reducible apply At.in_ret
    with_reducible apply At.then_ret
    ((with_reducible apply At.fin1); rfl; rfl; intro w' hw')
    exact ⟨rfl, by (exact hw'.toExt (by (repeat (first | exact List.Mem.head _ | apply List.Mem.tail))) (fun k hk => by (focus ((try simp only [add_block]); (repeat (first | exact NotOwned.nil | exact hno _ (by omega) | refine NotOwned.nothing ?_ | refine NotOwned.nds (hlow _ (by omega)) ?_ | refine NotOwned.mapS (by omega) ?_ | apply NotOwned.bif | refine NotOwned.blk (by omega) ?_ | refine NotOwned.row (by omega) ?_ | refine NotOwned.grid (by assumption) (by omega) ?_)); done))))⟩
  apply W.seq
  apply W.reg
  apply obn; rfl; rfl; rfl; apply Bin.eql
  apply oas; rfl; rfl
  apply OL.nil
  with_reducible apply At.next
  (refine W.cond rfl (fun h84 => ?_) (fun h84 => ?_)) <;> (try (simp only [Bool.and_eq_true, Bool.or_eq_true, Bool.not_eq_true', Bool.and_eq_false_iff, Bool.or_eq_false_iff, Bool.not_eq_false', decide_eq_true_eq, decide_eq_false_iff_not, Int.not_lt, Int.not_le] at h84)) <;> (try (exfalso; first | omega | exact h84 trivial | contradiction))
  · have e : clsOf c = typeL := by rw [u8_eq (n := 84) h84 (by decide)]; decide
    unfold P1
    rw [e]
    apply W.seq
    apply W.reg
    apply omv; rfl; rfl
    apply OL.buildSlice; rfl; rfl; rfl; apply Elems.cons rfl; exact CellsL.one rfl; rfl; apply Elems.cons rfl; exact CellsL.one rfl; rfl; apply Elems.cons rfl; exact CellsL.one rfl; rfl; apply Elems.cons rfl; exact CellsL.one rfl; rfl; apply Elems.nil; apply App.cons; apply App.nil; apply App.cons; apply App.nil; apply App.cons; apply App.nil; apply App.cons; apply App.nil; rfl; rfl; (intro bk hbk; simp only [AllLe, and_true] at hbk)
    (((first | (with_reducible apply OL.op) | (with_reducible apply QL.op)); ((first | exact Guard.none | exact Guard.yes rfl rfl | exact Guard.no rfl rfl | exact Guard.cyes rfl rfl | exact Guard.cno rfl rfl)); rfl; rfl); (apply Pev.callv (first := []) (cap := [.pointer (some ⟨b3, 0, .none⟩)])); rfl; ((first | exact fun _ => rfl | exact fun h => h | (intro h; simp_all; done))); rfl; ((repeat (first | exact Args.nil | (apply Args.cons rfl; ((first | exact fun _ => rfl | exact fun h => h | (intro h; simp_all; done))))))); (exact (fun _ w2 hw2 => (one_calls typeL k (some ⟨bk, 0, .none⟩) 4 b3 w2 (by decide) (blk_slat (hw2.item (.head _))) (blk_lt (hw2.item (.tail _ (.head _)))) (blk_cell (hw2.item (.tail _ (.head _))))).mono (fun e w3 h => ⟨h.1, hw2.ext h.2⟩))))
    apply oas; rfl; rfl
    apply OL.nil
    with_reducible apply At.next
    apply W.ret
    with_reducible apply At.in_ret
    with_reducible apply At.then_ret
    ((with_reducible apply At.fin1); rfl; rfl; intro w' hw')
    exact ⟨rfl, by (exact hw'.toExt (by (repeat (first | exact List.Mem.head _ | apply List.Mem.tail))) (fun k hk => by (focus ((try simp only [add_block]); (repeat (first | exact NotOwned.nil | exact hno _ (by omega) | refine NotOwned.nothing ?_ | refine NotOwned.nds (hlow _ (by omega)) ?_ | refine NotOwned.mapS (by omega) ?_ | apply NotOwned.bif | refine NotOwned.blk (by omega) ?_ | refine NotOwned.row (by omega) ?_ | refine NotOwned.grid (by assumption) (by omega) ?_)); done))))⟩
  apply W.seq
  apply W.reg
  apply obn; rfl; rfl; rfl; apply Bin.eql
  apply oas; rfl; rfl
  apply OL.nil
  with_reducible apply At.next
  (refine W.cond rfl (fun h69 => ?_) (fun h69 => ?_)) <;> (try (simp only [Bool.and_eq_true, Bool.or_eq_true, Bool.not_eq_true', Bool.and_eq_false_iff, Bool.or_eq_false_iff, Bool.not_eq_false', decide_eq_true_eq, decide_eq_false_iff_not, Int.not_lt, Int.not_le] at h69)) <;> (try (exfalso; first | omega | exact h69 trivial | contradiction))
  · have e : clsOf c = exprL := by rw [u8_eq (n := 69) h69 (by decide)]; decide
    unfold P1
    rw [e]
    apply W.seq
    apply W.reg
    apply omv; rfl; rfl
    apply OL.buildSlice; rfl; rfl; rfl; apply Elems.cons rfl; exact CellsL.one rfl; rfl; apply Elems.cons rfl; exact CellsL.one rfl; rfl; apply Elems.cons rfl; exact CellsL.one rfl; rfl; apply Elems.cons rfl; exact CellsL.one rfl; rfl; apply Elems.cons rfl; exact CellsL.one rfl; rfl; apply Elems.cons rfl; exact CellsL.one rfl; rfl; apply Elems.cons rfl; exact CellsL.one rfl; rfl; apply Elems.cons rfl; exact CellsL.one rfl; rfl; apply Elems.cons rfl; exact CellsL.one rfl; rfl; apply Elems.cons rfl; exact CellsL.one rfl; rfl; apply Elems.cons rfl; exact CellsL.one rfl; rfl; apply Elems.cons rfl; exact CellsL.one rfl; rfl; apply Elems.nil; apply App.cons; apply App.nil; apply App.cons; apply App.nil; apply App.cons; apply App.nil; apply App.cons; apply App.nil; apply App.cons; apply App.nil; apply App.cons; apply App.nil; apply App.cons; apply App.nil; apply App.cons; apply App.nil; apply App.cons; apply App.nil; apply App.cons; apply App.nil; apply App.cons; apply App.nil; apply App.cons; apply App.nil; rfl; rfl; (intro bk hbk; simp only [AllLe, and_true] at hbk)
    (((first | (with_reducible apply OL.op) | (with_reducible apply QL.op)); ((first | exact Guard.none | exact Guard.yes rfl rfl | exact Guard.no rfl rfl | exact Guard.cyes rfl rfl | exact Guard.cno rfl rfl)); rfl; rfl); (apply Pev.callv (first := []) (cap := [.pointer (some ⟨b3, 0, .none⟩)])); rfl; ((first | exact fun _ => rfl | exact fun h => h | (intro h; simp_all; done))); rfl; ((repeat (first | exact Args.nil | (apply Args.cons rfl; ((first | exact fun _ => rfl | exact fun h => h | (intro h; simp_all; done))))))); (exact (fun _ w2 hw2 => (one_calls exprL k (some ⟨bk, 0, .none⟩) 12 b3 w2 (by decide) (blk_slat (hw2.item (.head _))) (blk_lt (hw2.item (.tail _ (.head _)))) (blk_cell (hw2.item (.tail _ (.head _))))).mono (fun e w3 h => ⟨h.1, hw2.ext h.2⟩))))
    apply oas; rfl; rfl
    apply OL.nil
    with_reducible apply At.next
    apply W.ret
    with_reducible apply At.in_ret
    with_reducible apply At.then_ret
    ((with_reducible apply At.fin1); rfl; rfl; intro w' hw')
    exact ⟨rfl, by (exact hw'.toExt (by (repeat (first | exact List.Mem.head _ | apply List.Mem.tail))) (fun k hk => by (focus ((try simp only [add_block]); (repeat (first | exact NotOwned.nil | exact hno _ (by omega) | refine NotOwned.nothing ?_ | refine NotOwned.nds (hlow _ (by omega)) ?_ | refine NotOwned.mapS (by omega) ?_ | apply NotOwned.bif | refine NotOwned.blk (by omega) ?_ | refine NotOwned.row (by omega) ?_ | refine NotOwned.grid (by assumption) (by omega) ?_)); done))))⟩
  apply W.seq
  apply W.reg
  apply obn; rfl; rfl; rfl; apply Bin.eql
  apply oas; rfl; rfl
  apply OL.nil
  with_reducible apply At.next
  (refine W.cond rfl (fun h88 => ?_) (fun h88 => ?_)) <;> (try (simp only [Bool.and_eq_true, Bool.or_eq_true, Bool.not_eq_true', Bool.and_eq_false_iff, Bool.or_eq_false_iff, Bool.not_eq_false', decide_eq_true_eq, decide_eq_false_iff_not, Int.not_lt, Int.not_le] at h88)) <;> (try (exfalso; first | omega | exact h88 trivial | contradiction))
  apply W.seq
  apply W.reg
  apply obn; rfl; rfl; rfl; apply Bin.eql
  apply oas; rfl; rfl
  apply OL.nil
  with_reducible apply At.next
  (refine W.cond rfl (fun h80 => ?_) (fun h80 => ?_)) <;> (try (simp only [Bool.and_eq_true, Bool.or_eq_true, Bool.not_eq_true', Bool.and_eq_false_iff, Bool.or_eq_false_iff, Bool.not_eq_false', decide_eq_true_eq, decide_eq_false_iff_not, Int.not_lt, Int.not_le] at h80)) <;> (try (exfalso; first | omega | exact h80 trivial | contradiction))
  · have e : clsOf c = patL := by rw [u8_eq (n := 80) h80 (by decide)]; decide
    unfold P1
    rw [e]
    apply W.seq
    apply W.reg
    apply omv; rfl; rfl
    apply OL.buildSlice; rfl; rfl; rfl; apply Elems.cons rfl; exact CellsL.one rfl; rfl; apply Elems.cons rfl; exact CellsL.one rfl; rfl; apply Elems.cons rfl; exact CellsL.one rfl; rfl; apply Elems.cons rfl; exact CellsL.one rfl; rfl; apply Elems.nil; apply App.cons; apply App.nil; apply App.cons; apply App.nil; apply App.cons; apply App.nil; apply App.cons; apply App.nil; rfl; rfl; (intro bk hbk; simp only [AllLe, and_true] at hbk)
    (((first | (with_reducible apply OL.op) | (with_reducible apply QL.op)); ((first | exact Guard.none | exact Guard.yes rfl rfl | exact Guard.no rfl rfl | exact Guard.cyes rfl rfl | exact Guard.cno rfl rfl)); rfl; rfl); (apply Pev.callv (first := []) (cap := [.pointer (some ⟨b3, 0, .none⟩)])); rfl; ((first | exact fun _ => rfl | exact fun h => h | (intro h; simp_all; done))); rfl; ((repeat (first | exact Args.nil | (apply Args.cons rfl; ((first | exact fun _ => rfl | exact fun h => h | (intro h; simp_all; done))))))); (exact (fun _ w2 hw2 => (one_calls patL k (some ⟨bk, 0, .none⟩) 4 b3 w2 (by decide) (blk_slat (hw2.item (.head _))) (blk_lt (hw2.item (.tail _ (.head _)))) (blk_cell (hw2.item (.tail _ (.head _))))).mono (fun e w3 h => ⟨h.1, hw2.ext h.2⟩))))
    apply oas; rfl; rfl
    apply OL.nil
    with_reducible apply At.next
    apply W.ret
    with_reducible apply At.in_ret
    with_reducible apply At.then_ret
    ((with_reducible apply At.fin1); rfl; rfl; intro w' hw')
    exact ⟨rfl, by (exact hw'.toExt (by (repeat (first | exact List.Mem.head _ | apply List.Mem.tail))) (fun k hk => by (focus ((try simp only [add_block]); (repeat (first | exact NotOwned.nil | exact hno _ (by omega) | refine NotOwned.nothing ?_ | refine NotOwned.nds (hlow _ (by omega)) ?_ | refine NotOwned.mapS (by omega) ?_ | apply NotOwned.bif | refine NotOwned.blk (by omega) ?_ | refine NotOwned.row (by omega) ?_ | refine NotOwned.grid (by assumption) (by omega) ?_)); done))))⟩
  apply W.seq
  apply W.reg
  apply obn; rfl; rfl; rfl; apply Bin.eql
  apply oas; rfl; rfl
  apply OL.nil
  with_reducible apply At.next
  (refine W.cond rfl (fun h86 => ?_) (fun h86 => ?_)) <;> (try (simp only [Bool.and_eq_true, Bool.or_eq_true, Bool.not_eq_true', Bool.and_eq_false_iff, Bool.or_eq_false_iff, Bool.not_eq_false', decide_eq_true_eq, decide_eq_false_iff_not, Int.not_lt, Int.not_le] at h86)) <;> (try (exfalso; first | omega | exact h86 trivial | contradiction))
  · have e : clsOf c = parL := by rw [u8_eq (n := 86) h86 (by decide)]; decide
    unfold P1
    rw [e]
    apply W.seq
    apply W.reg
    apply omv; rfl; rfl
    apply OL.buildSlice; rfl; rfl; rfl; apply Elems.cons rfl; exact CellsL.one rfl; rfl; apply Elems.cons rfl; exact CellsL.one rfl; rfl; apply Elems.nil; apply App.cons; apply App.nil; apply App.cons; apply App.nil; rfl; rfl; (intro bk hbk; simp only [AllLe, and_true] at hbk)
    (((first | (with_reducible apply OL.op) | (with_reducible apply QL.op)); ((first | exact Guard.none | exact Guard.yes rfl rfl | exact Guard.no rfl rfl | exact Guard.cyes rfl rfl | exact Guard.cno rfl rfl)); rfl; rfl); (apply Pev.callv (first := []) (cap := [.pointer (some ⟨b3, 0, .none⟩)])); rfl; ((first | exact fun _ => rfl | exact fun h => h | (intro h; simp_all; done))); rfl; ((repeat (first | exact Args.nil | (apply Args.cons rfl; ((first | exact fun _ => rfl | exact fun h => h | (intro h; simp_all; done))))))); (exact (fun _ w2 hw2 => (one_calls parL k (some ⟨bk, 0, .none⟩) 2 b3 w2 (by decide) (blk_slat (hw2.item (.head _))) (blk_lt (hw2.item (.tail _ (.head _)))) (blk_cell (hw2.item (.tail _ (.head _))))).mono (fun e w3 h => ⟨h.1, hw2.ext h.2⟩))))
    apply oas; rfl; rfl
    apply OL.nil
    with_reducible apply At.next
    apply W.ret
    with_reducible apply At.in_ret
    with_reducible apply At.then_ret
    ((with_reducible apply At.fin1); rfl; rfl; intro w' hw')
    exact ⟨rfl, by (exact hw'.toExt (by (repeat (first | exact List.Mem.head _ | apply List.Mem.tail))) (fun k hk => by (focus ((try simp only [add_block]); (repeat (first | exact NotOwned.nil | exact hno _ (by omega) | refine NotOwned.nothing ?_ | refine NotOwned.nds (hlow _ (by omega)) ?_ | refine NotOwned.mapS (by omega) ?_ | apply NotOwned.bif | refine NotOwned.blk (by omega) ?_ | refine NotOwned.row (by omega) ?_ | refine NotOwned.grid (by assumption) (by omega) ?_)); done))))⟩
  apply W.seq
  apply W.reg
  apply obn; rfl; rfl; rfl; apply Bin.eql
  apply oas; rfl; rfl
  apply OL.nil
  with_reducible apply At.next
  (refine W.cond rfl (fun h98 => ?_) (fun h98 => ?_)) <;> (try (simp only [Bool.and_eq_true, Bool.or_eq_true, Bool.not_eq_true', Bool.and_eq_false_iff, Bool.or_eq_false_iff, Bool.not_eq_false', decide_eq_true_eq, decide_eq_false_iff_not, Int.not_lt, Int.not_le] at h98)) <;> (try (exfalso; first | omega | exact h98 trivial | contradiction))
  · have e : clsOf c = [13, 12] := by rw [u8_eq (n := 98) h98 (by decide)]; decide
    unfold P1
    rw [e]
    apply W.seq
    apply W.reg
    apply omv; rfl; rfl
    apply OL.buildSlice; rfl; rfl; rfl; apply Elems.cons rfl; exact CellsL.one rfl; rfl; apply Elems.cons rfl; exact CellsL.one rfl; rfl; apply Elems.nil; apply App.cons; apply App.nil; apply App.cons; apply App.nil; rfl; rfl; (intro bk hbk; simp only [AllLe, and_true] at hbk)
    (((first | (with_reducible apply OL.op) | (with_reducible apply QL.op)); ((first | exact Guard.none | exact Guard.yes rfl rfl | exact Guard.no rfl rfl | exact Guard.cyes rfl rfl | exact Guard.cno rfl rfl)); rfl; rfl); (apply Pev.callv (first := []) (cap := [.pointer (some ⟨b3, 0, .none⟩)])); rfl; ((first | exact fun _ => rfl | exact fun h => h | (intro h; simp_all; done))); rfl; ((repeat (first | exact Args.nil | (apply Args.cons rfl; ((first | exact fun _ => rfl | exact fun h => h | (intro h; simp_all; done))))))); (exact (fun _ w2 hw2 => (one_calls [13, 12] k (some ⟨bk, 0, .none⟩) 2 b3 w2 (by decide) (blk_slat (hw2.item (.head _))) (blk_lt (hw2.item (.tail _ (.head _)))) (blk_cell (hw2.item (.tail _ (.head _))))).mono (fun e w3 h => ⟨h.1, hw2.ext h.2⟩))))
    apply oas; rfl; rfl
    apply OL.nil
    with_reducible apply At.next
    apply W.ret
    with_reducible apply At.in_ret
    with_reducible apply At.then_ret
    ((with_reducible apply At.fin1); rfl; rfl; intro w' hw')
    exact ⟨rfl, by (exact hw'.toExt (by (repeat (first | exact List.Mem.head _ | apply List.Mem.tail))) (fun k hk => by (focus ((try simp only [add_block]); (repeat (first | exact NotOwned.nil | exact hno _ (by omega) | refine NotOwned.nothing ?_ | refine NotOwned.nds (hlow _ (by omega)) ?_ | refine NotOwned.mapS (by omega) ?_ | apply NotOwned.bif | refine NotOwned.blk (by omega) ?_ | refine NotOwned.row (by omega) ?_ | refine NotOwned.grid (by assumption) (by omega) ?_)); done))))⟩
  apply W.seq
  apply W.reg
  apply obn; rfl; rfl; rfl; apply Bin.eql
  apply oas; rfl; rfl
  apply OL.nil
  with_reducible apply At.next
  (refine W.cond rfl (fun h104 => ?_) (fun h104 => ?_)) <;> (try (simp only [Bool.and_eq_true, Bool.or_eq_true, Bool.not_eq_true', Bool.and_eq_false_iff, Bool.or_eq_false_iff, Bool.not_eq_false', decide_eq_true_eq, decide_eq_false_iff_not, Int.not_lt, Int.not_le] at h104)) <;> (try (exfalso; first | omega | exact h104 trivial | contradiction))
  · have e : clsOf c = [33, 34] := by rw [u8_eq (n := 104) h104 (by decide)]; decide
    unfold P1
    rw [e]
    apply W.seq
    apply W.reg
    apply omv; rfl; rfl
    apply OL.buildSlice; rfl; rfl; rfl; apply Elems.cons rfl; exact CellsL.one rfl; rfl; apply Elems.cons rfl; exact CellsL.one rfl; rfl; apply Elems.nil; apply App.cons; apply App.nil; apply App.cons; apply App.nil; rfl; rfl; (intro bk hbk; simp only [AllLe, and_true] at hbk)
    (((first | (with_reducible apply OL.op) | (with_reducible apply QL.op)); ((first | exact Guard.none | exact Guard.yes rfl rfl | exact Guard.no rfl rfl | exact Guard.cyes rfl rfl | exact Guard.cno rfl rfl)); rfl; rfl); (apply Pev.callv (first := []) (cap := [.pointer (some ⟨b3, 0, .none⟩)])); rfl; ((first | exact fun _ => rfl | exact fun h => h | (intro h; simp_all; done))); rfl; ((repeat (first | exact Args.nil | (apply Args.cons rfl; ((first | exact fun _ => rfl | exact fun h => h | (intro h; simp_all; done))))))); (exact (fun _ w2 hw2 => (one_calls [33, 34] k (some ⟨bk, 0, .none⟩) 2 b3 w2 (by decide) (blk_slat (hw2.item (.head _))) (blk_lt (hw2.item (.tail _ (.head _)))) (blk_cell (hw2.item (.tail _ (.head _))))).mono (fun e w3 h => ⟨h.1, hw2.ext h.2⟩))))
    apply oas; rfl; rfl
    apply OL.nil
    with_reducible apply At.next
    apply W.ret
    with_reducible apply At.in_ret
    with_reducible apply At.then_ret
    ((with_reducible apply At.fin1); rfl; rfl; intro w' hw')
    exact ⟨rfl, by (exact hw'.toExt (by (repeat (first | exact List.Mem.head _ | apply List.Mem.tail))) (fun k hk => by (focus ((try simp only [add_block]); (repeat (first | exact NotOwned.nil | exact hno _ (by omega) | refine NotOwned.nothing ?_ | refine NotOwned.nds (hlow _ (by omega)) ?_ | refine NotOwned.mapS (by omega) ?_ | apply NotOwned.bif | refine NotOwned.blk (by omega) ?_ | refine NotOwned.row (by omega) ?_ | refine NotOwned.grid (by assumption) (by omega) ?_)); done))))⟩
  obtain ⟨m, x, hm, hm10, hx, hcl⟩ := single_letter hc h68 h84 h69 hX h80 h86 h98 h104
  unfold P1
  rw [hcl]
  have hx' : ([.int .i64 3, .int .i64 14, .int .i64 6, .int .i64 8, .int .i64 12, .int .i64 11, .int .i64 13, .int .i64 18, .int .i64 19, .int .i64 28] : List Value)[0 + m * 1]? = some (.int .i64 x) := by rw [show 0 + m * 1 = m by omega]; exact hx
  apply W.skip
  with_reducible apply At.in_normal
  with_reducible apply At.next
  apply W.seq
  apply W.reg
  apply oas; rfl; rfl
  apply OL.nil
  with_reducible apply At.next
  apply W.seq
  apply W.reg
  apply OL.buildSlice; rfl; rfl; rfl; apply Elems.cons rfl; exact CellsL.one rfl; rfl; apply Elems.cons rfl; exact CellsL.one rfl; rfl; apply Elems.cons rfl; exact CellsL.one rfl; rfl; apply Elems.cons rfl; exact CellsL.one rfl; rfl; apply Elems.cons rfl; exact CellsL.one rfl; rfl; apply Elems.cons rfl; exact CellsL.one rfl; rfl; apply Elems.cons rfl; exact CellsL.one rfl; rfl; apply Elems.cons rfl; exact CellsL.one rfl; rfl; apply Elems.cons rfl; exact CellsL.one rfl; rfl; apply Elems.cons rfl; exact CellsL.one rfl; rfl; apply Elems.nil; apply App.cons; apply App.nil; apply App.cons; apply App.nil; apply App.cons; apply App.nil; apply App.cons; apply App.nil; apply App.cons; apply App.nil; apply App.cons; apply App.nil; apply App.cons; apply App.nil; apply App.cons; apply App.nil; apply App.cons; apply App.nil; apply App.cons; apply App.nil; rfl; rfl; (intro bk hbk; simp only [AllLe, and_true] at hbk)
  apply oas; rfl; rfl
  apply OL.nil
  with_reducible apply At.next
  apply W.seq
  apply W.regd0; decide +kernel; kernel_rfl; decide +kernel; exact fun w hw => hw.drew
  apply qmv; rfl; rfl
  apply qmv; rfl; rfl
  apply qmv; rfl; rfl
  (((first | (with_reducible apply OL.op) | (with_reducible apply QL.op)); ((first | exact Guard.none | exact Guard.yes rfl rfl | exact Guard.no rfl rfl | exact Guard.cyes rfl rfl | exact Guard.cno rfl rfl)); rfl; rfl); (refine Pev.call (v := .int .i64 (m : Int)) rfl (by (repeat (first | exact Args.nil | (apply Args.cons rfl; ((first | exact fun _ => rfl | exact fun h => h | (intro h; simp_all; done))))))) (fun _ w2 hw2 => (indexByte_calls _ _ w2).mono (fun e w3 h => ⟨by rw [h.1, ← hm], by rw [h.2]; exact hw2⟩))))
  apply QL.op; exact Guard.none; rfl; rfl; apply Pev.idxB; rfl; exact yes; rfl; exact yes; rfl; intro hcond; omega; rfl
  apply QL.op; exact Guard.none; rfl; rfl; apply Pev.load_blk; rfl; exact yes; exact .head _; rfl; assumption
  apply qld; rfl; rfl; exact .tail _ (.head _); rfl; rfl
  apply qbn; rfl; rfl; rfl; apply Bin.eql
  apply qas; rfl; rfl
  apply QL.nil
  with_reducible apply At.next
  apply W.ret
  ((with_reducible apply At.fin1); rfl; rfl; intro w' hw')
  exact ⟨congrArg (fun b => Ending.returned (Value.bool b)) (by simp [inL]), by (exact hw'.toExt (by (repeat (first | exact List.Mem.head _ | apply List.Mem.tail))) (fun k hk => by (focus ((try simp only [add_block]); (repeat (first | exact NotOwned.nil | exact hno _ (by omega) | refine NotOwned.nothing ?_ | refine NotOwned.nds (hlow _ (by omega)) ?_ | refine NotOwned.mapS (by omega) ?_ | apply NotOwned.bif | refine NotOwned.blk (by omega) ?_ | refine NotOwned.row (by omega) ?_ | refine NotOwned.grid (by assumption) (by omega) ?_)); done))))⟩
theorem isOf_calls (c : UInt8) (k : Int) (w : World) (hc : c ∈ letters) :
    Calls Try.prog 63 #[.int .u8 (c.toNat : Int), .int .i64 k] w fun e w' => e = .returned (.bool (P1 c k)) ∧ Ext w w' := by
  by_cases hX : (c.toNat : Int) = 88
  case neg => exact isOf0_calls c k w hc hX
  obtain rfl := u8_eq (n := 88) hX (by decide)
  refine enter Try.func63 rfl Try.ntmps63 rfl (Cls.start w) ?_
  (simp only [argEnv, Nat.zero_add, Nat.reduceAdd])
  apply W.seq
  apply W.reg
  apply OL.box; rfl; rfl; exact CellsL.one rfl; (intro bk hbk; simp only [AllLe, and_true] at hbk)
  apply oas; rfl; rfl
  apply OL.nil
  with_reducible apply At.next
  apply W.seq
  apply W.reg
  apply OL.op; exact Guard.none; rfl; rfl; apply Pev.makeFunc; exact Args.nil; apply Args.cons rfl; exact yes; exact Args.nil
  apply oas; rfl; rfl
  apply OL.nil
  with_reducible apply At.next
  apply W.seq
  apply W.seq
  apply W.reg
  apply omv; rfl; rfl
  apply OL.nil
  with_reducible apply At.next
  apply W.block
  apply W.seq
  apply W.reg
  apply obn; rfl; rfl; rfl; apply Bin.eql
  apply oas; rfl; rfl
  apply OL.nil
  with_reducible apply At.next
  revert bk
  intro b3 hb3
  (refine W.cond rfl (fun h68 => ?_) (fun h68 => ?_)) <;> (try (simp only [Bool.and_eq_true, Bool.or_eq_true, Bool.not_eq_true', Bool.and_eq_false_iff, Bool.or_eq_false_iff, Bool.not_eq_false', decide_eq_true_eq, decide_eq_false_iff_not, Int.not_lt, Int.not_le] at h68)) <;> (try (exfalso; first | omega | exact h68 trivial | contradiction))
  apply W.seq
  apply W.reg
  apply obn; rfl; rfl; rfl; apply Bin.eql
  apply oas; rfl; rfl
  apply OL.nil
  with_reducible apply At.next
  (refine W.cond rfl (fun h84 => ?_) (fun h84 => ?_)) <;> (try (simp only [Bool.and_eq_true, Bool.or_eq_true, Bool.not_eq_true', Bool.and_eq_false_iff, Bool.or_eq_false_iff, Bool.not_eq_false', decide_eq_true_eq, decide_eq_false_iff_not, Int.not_lt, Int.not_le] at h84)) <;> (try (exfalso; first | omega | exact h84 trivial | contradiction))
  apply W.seq
  apply W.reg
  apply obn; rfl; rfl; rfl; apply Bin.eql
  apply oas; rfl; rfl
  apply OL.nil
  with_reducible apply At.next
  (refine W.cond rfl (fun h69 => ?_) (fun h69 => ?_)) <;> (try (simp only [Bool.and_eq_true, Bool.or_eq_true, Bool.not_eq_true', Bool.and_eq_false_iff, Bool.or_eq_false_iff, Bool.not_eq_false', decide_eq_true_eq, decide_eq_false_iff_not, Int.not_lt, Int.not_le] at h69)) <;> (try (exfalso; first | omega | exact h69 trivial | contradiction))
  apply W.seq
  apply W.reg
  apply obn; rfl; rfl; rfl; apply Bin.eql
  apply oas; rfl; rfl
  apply OL.nil
  with_reducible apply At.next
  (refine W.cond rfl (fun h88 => ?_) (fun h88 => ?_)) <;> (try (simp only [Bool.and_eq_true, Bool.or_eq_true, Bool.not_eq_true', Bool.and_eq_false_iff, Bool.or_eq_false_iff, Bool.not_eq_false', decide_eq_true_eq, decide_eq_false_iff_not, Int.not_lt, Int.not_le] at h88)) <;> (try (exfalso; first | omega | exact h88 trivial | contradiction))
  apply W.seq
  apply W.reg
  apply old; rfl; rfl; exact .head _; rfl; rfl
  (((first | (with_reducible apply OL.op) | (with_reducible apply QL.op)); ((first | exact Guard.none | exact Guard.yes rfl rfl | exact Guard.no rfl rfl | exact Guard.cyes rfl rfl | exact Guard.cno rfl rfl)); rfl; rfl); (exact Pev.call rfl (by (repeat (first | exact Args.nil | (apply Args.cons rfl; ((first | exact fun _ => rfl | exact fun h => h | (intro h; simp_all; done))))))) (fun _ w2 hw2 => (isOf0_calls 84 k w2 (by decide) (by decide)).mono (fun e w3 h => ⟨h.1, hw2.ext h.2⟩))))
  apply omv; rfl; rfl
  apply OL.op; exact Guard.no rfl rfl; rfl; rfl; apply Pev.load_blk; rfl; exact yes; exact .head _; rfl; rfl
  (((first | (with_reducible apply OL.op) | (with_reducible apply QL.op)); ((first | exact Guard.none | exact Guard.yes rfl rfl | exact Guard.no rfl rfl | exact Guard.cyes rfl rfl | exact Guard.cno rfl rfl)); rfl; rfl); (exact Pev.call rfl (by (repeat (first | exact Args.nil | (apply Args.cons rfl; ((first | exact fun _ => rfl | exact fun h => h | (intro h; simp_all; done))))))) (fun _ w2 hw2 => (isOf0_calls 69 k w2 (by decide) (by decide)).mono (fun e w3 h => ⟨h.1, hw2.ext h.2⟩))))
  apply OL.op; exact Guard.none; rfl; rfl; apply Pev.pick_or; rfl; exact yes; rfl; exact fun h => h
  apply oas; rfl; rfl
  apply OL.nil
  with_reducible apply At.next
  apply W.ret
  with_reducible apply At.in_ret
  with_reducible apply At.then_ret
  ((with_reducible apply At.fin1); rfl; rfl; intro w' hw')
  refine ⟨congrArg (fun b => Ending.returned (Value.bool b)) ?_, by (exact hw'.toExt (by (repeat (first | exact List.Mem.head _ | apply List.Mem.tail))) (fun k hk => by (focus ((try simp only [add_block]); (repeat (first | exact NotOwned.nil | exact hno _ (by omega) | refine NotOwned.nothing ?_ | refine NotOwned.nds (hlow _ (by omega)) ?_ | refine NotOwned.mapS (by omega) ?_ | apply NotOwned.bif | refine NotOwned.blk (by omega) ?_ | refine NotOwned.row (by omega) ?_ | refine NotOwned.grid (by assumption) (by omega) ?_)); done))))⟩
  have e : clsOf (88 : Nat).toUInt8 = typeL ++ exprL := by decide
  unfold P1
  rw [e, inL_append]
  rfl
end Go.Proofs.Ytlcclcakdfmgkaa.pk
