/- The walks of the reference's virtual, opener, innermost, blocks, Ends and shut. Conditions: none. -/
import Derived.Test.YtlcclcakdfmgkaaLyC
namespace Go.Proofs.Ytlcclcakdfmgkaa.ly
open Go.RowKit Go.Eng Go.Ly
set_option linter.unusedVariables false
set_option linter.unusedSimpArgs false
set_option maxRecDepth 100000

theorem virtual_calls (k : Int) (t : Tok) (w : World) : Calls Try.prog 39 #[.int .i64 k, .agg (tc t).toArray] w fun e w' => e = .returned (.agg (tc (tk k t)).toArray) ∧ Ext w w' := by
  refine enter Try.func39 rfl Try.ntmps39 rfl (Cls.start w) ?_
  (simp only [argEnv, Nat.zero_add, Nat.reduceAdd])
  apply W.seq
  apply W.reg
  apply OL.box; rfl; rfl; exact CellsL.agg; (intro bk hbk; simp only [AllLe, and_true] at hbk)
  apply OL.alloc; rfl; rfl; exact CellsL.agg; (intro bk hbk; simp only [AllLe, and_true] at hbk)
  apply OL.nil
  with_reducible apply At.next
  apply W.seq
  apply W.reg
  apply omv; rfl; rfl
  apply ofa; rfl; rfl; rfl
  apply old; rfl; rfl; exact .tail _ (.head _); rfl; rfl
  apply ofa; rfl; rfl; rfl
  apply old; rfl; rfl; exact .tail _ (.head _); rfl; rfl
  apply OL.op; exact Guard.none; rfl; rfl; apply Pev.build; rfl; exact CellsL.agg; rfl; apply Fill.cons rfl; exact CellsL.one rfl; rfl; rfl; apply Put.here; apply Over.cons; apply Over.nil; apply Fill.cons rfl; exact CellsL.one rfl; rfl; rfl; apply Put.skip; apply Put.skip; apply Put.skip; apply Put.here; apply Over.cons; apply Over.nil; apply Fill.cons rfl; exact CellsL.one rfl; rfl; rfl; apply Put.skip; apply Put.skip; apply Put.skip; apply Put.skip; apply Put.here; apply Over.cons; apply Over.nil; apply Fill.nil; rfl
  apply OL.storeB; rfl; rfl; exact CellsL.agg; rfl; rfl; rfl; apply Swap.z; apply Put.here; apply Over.cons; apply Over.cons; apply Over.cons; apply Over.cons; apply Over.cons; apply Over.nil
  apply OL.nil
  with_reducible apply At.next
  apply W.ret
  exact At.finC (b := bk) (cs := tc (tk k t)) rfl rfl (by (repeat (first | exact List.Mem.head _ | apply List.Mem.tail))) rfl rfl (fun w' hw' => ⟨rfl, by (exact hw'.toExt (by (repeat (first | exact List.Mem.head _ | apply List.Mem.tail))) (fun k hk => by (focus ((try simp only [add_block]); (repeat (first | exact NotOwned.nil | exact hno _ (by omega) | refine NotOwned.nothing ?_ | refine NotOwned.nds (hlow _ (by omega)) ?_ | refine NotOwned.mapS (by omega) ?_ | apply NotOwned.bif | refine NotOwned.blk (by omega) ?_ | refine NotOwned.row (by omega) ?_ | refine NotOwned.grid (by assumption) (by omega) ?_)); done))))⟩)
theorem opener_calls (t : Tok) (w : World) : Calls Try.prog 40 #[.agg (tc t).toArray] w fun e w' => e = .returned (.bool (opT t)) ∧ Ext w w' := by
  refine enter Try.func40 rfl Try.ntmps40 rfl (Cls.start w) ?_
  (simp only [argEnv, Nat.zero_add, Nat.reduceAdd])
  apply W.seq
  apply W.reg
  apply OL.box; rfl; rfl; exact CellsL.agg; (intro bk hbk; simp only [AllLe, and_true] at hbk)
  apply oas; rfl; rfl
  apply OL.nil
  with_reducible apply At.next
  apply W.seq
  apply W.reg
  apply ofa; rfl; rfl; rfl
  apply old; rfl; rfl; exact .head _; rfl; rfl
  apply obn; rfl; rfl; rfl; apply Bin.eql
  apply omv; rfl; rfl
  apply OL.op; exact Guard.yes rfl rfl; rfl; rfl; apply Pev.fld; rfl; exact yes; rfl
  apply OL.op; exact Guard.yes rfl rfl; rfl; rfl; apply Pev.load_blk; rfl; exact fun h => h; exact .head _; rfl; rfl
  apply OL.op; exact Guard.yes rfl rfl; rfl; rfl; apply Pev.bin; rfl; exact fun h => h; rfl; exact yes; intro hcond; apply Bin.str_eql
  apply OL.op; exact Guard.yes rfl rfl; rfl; rfl; apply Pev.move; rfl; exact fun h => h
  apply OL.op; exact Guard.cno rfl rfl; rfl; rfl; apply Pev.fld; rfl; exact yes; rfl
  apply OL.op; exact Guard.cno rfl rfl; rfl; rfl; apply Pev.load_blk; rfl; exact fun h => h; exact .head _; rfl; rfl
  apply OL.op; exact Guard.cno rfl rfl; rfl; rfl; apply Pev.bin; rfl; exact fun h => h; rfl; exact yes; intro hcond; apply Bin.str_eql
  apply OL.op; exact Guard.yes rfl rfl; rfl; rfl; apply Pev.pick_or; rfl; exact fun h => h; rfl; exact fun h => h
  apply OL.op; exact Guard.yes rfl rfl; rfl; rfl; apply Pev.move; rfl; exact fun h => h
  apply OL.op; exact Guard.cno rfl rfl; rfl; rfl; apply Pev.fld; rfl; exact yes; rfl
  apply OL.op; exact Guard.cno rfl rfl; rfl; rfl; apply Pev.load_blk; rfl; exact fun h => h; exact .head _; rfl; rfl
  apply OL.op; exact Guard.cno rfl rfl; rfl; rfl; apply Pev.bin; rfl; exact fun h => h; rfl; exact yes; intro hcond; apply Bin.str_eql
  apply OL.op; exact Guard.yes rfl rfl; rfl; rfl; apply Pev.pick_or; rfl; exact fun h => h; rfl; exact fun h => h
  apply OL.op; exact Guard.yes rfl rfl; rfl; rfl; apply Pev.move; rfl; exact fun h => h
  apply OL.op; exact Guard.cno rfl rfl; rfl; rfl; apply Pev.fld; rfl; exact yes; rfl
  apply OL.op; exact Guard.cno rfl rfl; rfl; rfl; apply Pev.load_blk; rfl; exact fun h => h; exact .head _; rfl; rfl
  apply OL.op; exact Guard.cno rfl rfl; rfl; rfl; apply Pev.bin; rfl; exact fun h => h; rfl; exact yes; intro hcond; apply Bin.str_eql
  apply OL.op; exact Guard.yes rfl rfl; rfl; rfl; apply Pev.pick_or; rfl; exact fun h => h; rfl; exact fun h => h
  apply OL.op; exact Guard.none; rfl; rfl; apply Pev.pick_and; rfl; exact yes; rfl; exact fun h => h
  apply oas; rfl; rfl
  apply OL.nil
  with_reducible apply At.next
  apply W.ret
  ((with_reducible apply At.fin1); rfl; rfl; intro w' hw')
  exact ⟨rfl, by (exact hw'.toExt (by (repeat (first | exact List.Mem.head _ | apply List.Mem.tail))) (fun k hk => by (focus ((try simp only [add_block]); (repeat (first | exact NotOwned.nil | exact hno _ (by omega) | refine NotOwned.nothing ?_ | refine NotOwned.nds (hlow _ (by omega)) ?_ | refine NotOwned.mapS (by omega) ?_ | apply NotOwned.bif | refine NotOwned.blk (by omega) ?_ | refine NotOwned.row (by omega) ?_ | refine NotOwned.grid (by assumption) (by omega) ?_)); done))))⟩
/-- the k-th context from the top, read in place -/
theorem ctx_at {w : World} {B : Nat} {q : Option Addr} {s : List Cx} (h : SlAt w B q (cat cc s.reverse)) {k : Nat} (hk : k < s.length) : ∃ a c, q = some a ∧ a.block < B ∧ s[k]? = some c ∧ CellsAt w (a.add (((s.length : Int) - 1 - k).toNat * 2)) (cc c) := by
  obtain ⟨a, c, hq, hb, hc, hcell⟩ := h.elem clen (by decide) (show s.length - 1 - k < s.reverse.length by rw [List.length_reverse]; omega)
  rw [List.getElem?_reverse (by omega), show s.length - 1 - (s.length - 1 - k) = k by omega] at hc
  refine ⟨a, c, hq, hb, hc, ?_⟩
  rw [show ((s.length : Int) - 1 - k).toNat = s.length - 1 - k by omega]
  exact hcell
theorem dropc {s : List Cx} {k : Nat} {c : Cx} (h : s[k]? = some c) : s.drop k = c :: s.drop (k + 1) := by
  obtain ⟨hl, rfl⟩ := List.getElem?_eq_some_iff.1 h
  exact List.drop_eq_getElem_cons hl
theorem innermost_calls (q : Option Addr) (cap : Nat) (s : List Cx) (w : World) (hlen : s.length ≤ 1000000) (h : SlAt w w.heap.size q (cat cc s.reverse)) :
    Calls Try.prog 41 #[.slice q s.length cap] w fun e w' => e = .returned (.int .i64 (enc s)) ∧ Ext w w' := by
  refine enter Try.func41 rfl Try.ntmps41 rfl (Cls.start w) ?_
  (simp only [argEnv, Nat.zero_add, Nat.reduceAdd])
  apply W.seq
  apply W.reg
  apply oas; rfl; rfl
  apply OL.nil
  with_reducible apply At.next
  apply W.seq
  apply W.seq
  apply W.reg
  apply omv; rfl; rfl
  apply OL.op; exact Guard.none; rfl; rfl; apply Pev.len_slice; rfl; exact yes; rfl
  apply obn; rfl; rfl; rfl; apply Bin.sub_in; omega
  apply oas; rfl; rfl
  apply OL.nil
  with_reducible apply At.next
  apply W.block
  refine W.loop (G := Nat) (fun k => k ≤ s.length ∧ enc (s.drop k) = enc s) (fun k => s.length - k)
    (fun k => [(0, true, .slice q s.length cap), (3, true, .int .i64 ((s.length : Int) - 1 - k))])
    (fun k => Cls [] [w]) 0 ⟨Nat.zero_le _, rfl⟩ (by (repeat (first | exact Sub.nil | apply Sub.cons rfl | (refine Sub.cons_eq rfl (congrArg (Value.int .i64) (by first | omega | (simp only; omega))) ?_)))) (fun w' hw' => hw') ?_
  rintro k ⟨hk, hrest⟩
  apply W.seq
  apply W.seq
  apply W.reg
  apply omv; rfl; rfl
  apply obn; rfl; rfl; rfl; apply Bin.geq
  apply OL.nil
  with_reducible apply At.next
  (refine W.cond rfl (fun hlt => ?_) (fun hlt => ?_)) <;> (try (simp only [Bool.and_eq_true, Bool.or_eq_true, Bool.not_eq_true', Bool.and_eq_false_iff, Bool.or_eq_false_iff, Bool.not_eq_false', decide_eq_true_eq, decide_eq_false_iff_not, Int.not_lt, Int.not_le] at hlt)) <;> (try (exfalso; first | omega | exact hlt trivial | contradiction))
  · obtain ⟨a, c, rfl, hab, hc, hcell⟩ := ctx_at h (show k < s.length by omega)
    rw [dropc hc, enc] at hrest
    apply W.skip
    with_reducible apply At.next
    apply W.seq
    apply W.block
    apply W.seq
    apply W.reg
    apply omv; rfl; rfl
    apply omv; rfl; rfl
    apply OL.op; exact Guard.none; rfl; rfl; apply Pev.idxI; rfl; exact yes; rfl; exact yes; rfl; intro hcond; omega
    apply OL.op; exact Guard.none; rfl; rfl; apply Pev.fldA; rfl; exact yes; rfl
    apply OL.op; exact Guard.none; rfl; rfl; apply Pev.load_kept; rfl; exact yes; exact .head _; rfl; intro hcond; apply CellsAt.at_ (by assumption) rfl; intro hcond; (simp only [add_block]; assumption); intro hcond; exact NotOwned.nil
    apply obn; rfl; rfl; rfl; apply Bin.gtr
    apply OL.nil
    with_reducible apply At.next
    (refine W.cond rfl (fun hp => ?_) (fun hp => ?_)) <;> (try (simp only [Bool.and_eq_true, Bool.or_eq_true, Bool.not_eq_true', Bool.and_eq_false_iff, Bool.or_eq_false_iff, Bool.not_eq_false', decide_eq_true_eq, decide_eq_false_iff_not, Int.not_lt, Int.not_le] at hp)) <;> (try (exfalso; first | omega | exact hp trivial | contradiction))
    · rw [if_pos hp] at hrest
      apply W.seq
      apply W.reg
      apply omv; rfl; rfl
      apply omv; rfl; rfl
      apply OL.op; exact Guard.none; rfl; rfl; apply Pev.idxI; rfl; exact yes; rfl; exact yes; rfl; intro hcond; omega
      apply OL.op; exact Guard.none; rfl; rfl; apply Pev.fldA; rfl; exact yes; rfl
      apply OL.op; exact Guard.none; rfl; rfl; apply Pev.load_kept; rfl; exact yes; exact .head _; rfl; intro hcond; apply CellsAt.at_ (by assumption) rfl; intro hcond; (simp only [add_block]; assumption); intro hcond; exact NotOwned.nil
      apply oas; rfl; rfl
      apply OL.nil
      with_reducible apply At.next
      apply W.ret
      with_reducible apply At.in_ret
      with_reducible apply At.then_ret
      with_reducible apply At.then_ret
      with_reducible apply At.in_ret
      with_reducible apply At.then_ret
      ((with_reducible apply At.fin1); rfl; rfl; intro w' hw')
      exact ⟨by rw [hrest], by (exact hw'.toExt (by (repeat (first | exact List.Mem.head _ | apply List.Mem.tail))) (fun k hk => by (focus ((try simp only [add_block]); (repeat (first | exact NotOwned.nil | exact hno _ (by omega) | refine NotOwned.nothing ?_ | refine NotOwned.nds (hlow _ (by omega)) ?_ | refine NotOwned.mapS (by omega) ?_ | apply NotOwned.bif | refine NotOwned.blk (by omega) ?_ | refine NotOwned.row (by omega) ?_ | refine NotOwned.grid (by assumption) (by omega) ?_)); done))))⟩
    · rw [if_neg (by omega)] at hrest
      apply W.skip
      with_reducible apply At.in_normal
      with_reducible apply At.next
      apply W.reg
      apply omv; rfl; rfl
      apply obn; rfl; rfl; rfl; apply Bin.sub_in; omega
      apply oas; rfl; rfl
      apply OL.nil
      exact At.again (k + 1) ⟨by omega, hrest⟩ (by omega) (by (repeat (first | exact Sub.nil | apply Sub.cons rfl | (refine Sub.cons_eq rfl (congrArg (Value.int .i64) (by first | omega | (simp only; omega))) ?_)))) (fun w' hw' => hw')
  · rw [List.drop_eq_nil_of_le (by omega)] at hrest
    apply W.exit
    with_reducible apply At.then_exit
    with_reducible apply At.then_exit
    with_reducible apply At.in_exit
    with_reducible apply At.next
    apply W.seq
    apply W.reg
    apply oas; rfl; rfl
    apply OL.nil
    with_reducible apply At.next
    apply W.ret
    ((with_reducible apply At.fin1); rfl; rfl; intro w' hw')
    exact ⟨by rw [← hrest]; rfl, by (exact hw'.toExt (by (repeat (first | exact List.Mem.head _ | apply List.Mem.tail))) (fun k hk => by (focus ((try simp only [add_block]); (repeat (first | exact NotOwned.nil | exact hno _ (by omega) | refine NotOwned.nothing ?_ | refine NotOwned.nds (hlow _ (by omega)) ?_ | refine NotOwned.mapS (by omega) ?_ | apply NotOwned.bif | refine NotOwned.blk (by omega) ?_ | refine NotOwned.row (by omega) ?_ | refine NotOwned.grid (by assumption) (by omega) ?_)); done))))⟩
theorem Cls.plus {H : List Eng.Item} {S : List World} {w2 w3 : World} {i : Eng.Item} (h : Cls H S w2) (hc : Cls [i] [w2] w3) (ho : ∀ k, i.own k → w2.heap.size ≤ k) : Cls (i :: H) S w3 :=
  h.add (hc.toExt (.head _) (fun k hk => NotOwned.any (fun hm => by have := ho k hm; omega) .nil)) i (hc.holds _ (.head _)) (fun k hk => ⟨ho k hk, hc.lt _ (.head _) k hk⟩)
theorem AllLe.le {S : List World} {a b : Nat} (h : AllLe S a) (hab : a ≤ b) : AllLe S b := by
  induction S with
  | nil => trivial
  | cons s S ih => exact ⟨Nat.le_trans h.1 hab, ih h.2⟩
theorem Thin.row {S : List World} {base m cap size : Nat} {O : Nat → Prop} {q : Option Addr} {e : TypeId} {xs : List Value} {H H' : List Eng.Item} (hb : AllLe S base) (h : Thin S H H') : Thin S (Eng.row base O q m cap e size xs :: H) H' :=
  .any (fun k hk => AllLe.le hb hk.1) h
structure BG where
  k : Nat
  q : Option Addr
  c : Nat
  O : Nat → Prop
theorem blocks_calls (q : Option Addr) (cap : Nat) (s : List Cx) (w : World) (hlen : s.length ≤ 1000000) (h : SlAt w w.heap.size q (cat cc s.reverse)) :
    Calls Try.prog 42 #[.slice q s.length cap] w fun e w' => ∃ x : BG, e = .returned (.slice x.q (inn s).length x.c) ∧ True ∧ Cls [row w.heap.size x.O x.q (inn s).length x.c 87 2 (cat cc (inn s))] [w] w' := by
  have hle := inn_le s
  refine enter Try.func42 rfl Try.ntmps42 rfl (Cls.start w) ?_
  (simp only [argEnv, Nat.zero_add, Nat.reduceAdd])
  apply W.seq
  apply W.reg
  apply oas; rfl; rfl
  apply OL.nil
  with_reducible apply At.next
  apply W.seq
  apply W.reg
  apply oas; rfl; rfl
  apply OL.nil
  with_reducible apply At.next
  apply W.seq
  apply W.seq
  apply W.reg
  apply omv; rfl; rfl
  apply OL.op; exact Guard.none; rfl; rfl; apply Pev.len_slice; rfl; exact yes; rfl
  apply obn; rfl; rfl; rfl; apply Bin.sub_in; omega
  apply oas; rfl; rfl
  apply OL.nil
  with_reducible apply At.next
  apply W.block
  refine W.loop (G := BG) (fun g => g.k ≤ (inn s).length) (fun g => (inn s).length - g.k)
    (fun g => [(0, true, .slice q s.length cap), (3, true, .slice g.q g.k g.c), (4, true, .int .i64 ((s.length : Int) - 1 - g.k))])
    (fun g => Cls [row w.heap.size g.O g.q g.k g.c 87 2 (cat cc (s.take g.k))] [w]) ⟨0, none, 0, fun _ => False⟩ (Nat.zero_le _) (by (repeat (first | exact Sub.nil | apply Sub.cons rfl | (refine Sub.cons_eq rfl (congrArg (Value.int .i64) (by first | omega | (simp only; omega))) ?_)))) (fun w' hw' => hw'.row_nil _ _ _) ?_
  rintro ⟨k, q1, c1, O1⟩ hk
  simp only at hk ⊢
  have fin : ∀ w', k = (inn s).length → Cls [row w.heap.size O1 q1 k c1 87 2 (cat cc (s.take k))] [w] w' → ∃ x : BG, Ending.returned (Value.slice q1 k c1) = .returned (.slice x.q (inn s).length x.c) ∧ True ∧ Cls [row w.heap.size x.O x.q (inn s).length x.c 87 2 (cat cc (inn s))] [w] w' := fun w' he hw' => by
    refine ⟨⟨k, q1, c1, O1⟩, by rw [he], trivial, ?_⟩
    rw [he, ← (List.prefix_iff_eq_take.1 (List.takeWhile_prefix posX) : inn s = s.take (inn s).length)] at hw'
    exact hw'
  rcases Nat.lt_or_ge k s.length with hkl | hkl
  · obtain ⟨a, c, rfl, hab, hc, hcell⟩ := ctx_at h hkl
    apply W.seq
    apply W.seq
    apply W.reg
    apply omv; rfl; rfl
    apply obn; rfl; rfl; rfl; apply Bin.geq
    apply omv; rfl; rfl
    apply OL.op; exact Guard.yes rfl rfl; rfl; rfl; apply Pev.move; rfl; exact yes
    apply OL.op; exact Guard.yes rfl rfl; rfl; rfl; apply Pev.move; rfl; exact yes
    apply OL.op; exact Guard.yes rfl rfl; rfl; rfl; apply Pev.idxI; rfl; exact fun h => h; rfl; exact fun h => h; rfl; intro hcond; omega
    apply OL.op; exact Guard.yes rfl rfl; rfl; rfl; apply Pev.fldA; rfl; exact fun h => h; rfl
    apply OL.op; exact Guard.yes rfl rfl; rfl; rfl; apply Pev.load_kept; rfl; exact fun h => h; exact .head _; rfl; intro hcond; apply CellsAt.at_ (by assumption) rfl; intro hcond; (simp only [add_block]; assumption); intro hcond; simp only [add_block]; refine NotOwned.row (by omega) ?_; exact NotOwned.nil
    apply OL.op; exact Guard.yes rfl rfl; rfl; rfl; apply Pev.bin; rfl; exact fun h => h; rfl; exact yes; intro hcond; apply Bin.gtr
    apply OL.op; exact Guard.none; rfl; rfl; apply Pev.pick_and; rfl; exact yes; rfl; exact fun h => h
    apply OL.nil
    with_reducible apply At.next
    refine W.cond rfl (fun hb => ?_) (fun hb => ?_)
    · have hb2 : 0 < c.col := by simp at hb; exact hb.2
      have hlt := tw_yes (p := posX) hk (dropc hc) (decide_eq_true hb2)
      apply W.skip
      with_reducible apply At.next
      apply W.seq
      apply W.block
      apply W.reg
      apply omv; rfl; rfl
      apply omv; rfl; rfl
      apply omv; rfl; rfl
      apply OL.op; exact Guard.none; rfl; rfl; apply Pev.idxI; rfl; exact yes; rfl; exact yes; rfl; intro hcond; omega
      apply OL.op; exact Guard.none; rfl; rfl; apply Pev.load_keptA; rfl; exact yes; exact .head _; rfl; intro hcond; assumption; rfl; intro hcond; (rw [add_block]; assumption); intro hcond; simp only [add_block]; refine NotOwned.row (by omega) ?_; exact NotOwned.nil
      apply OL.buildSlice; rfl; rfl; rfl; apply Elems.cons rfl; exact CellsL.agg; rfl; apply Elems.nil; apply App.cons; apply App.cons; apply App.nil; rfl; rfl; (intro bk hbk; simp only [AllLe, and_true] at hbk)
      apply OL.append; rfl; rfl; rfl; rfl; apply Hole.s; apply Hole.z; exact .head _; apply Take.succ; apply Take.succ; apply Take.zero; rfl; rfl; exact ⟨_, .head _, Nat.le_refl _⟩; omega; intro O1 g1 cap1
      apply oas; rfl; rfl
      apply OL.nil
      with_reducible apply At.in_normal
      with_reducible apply At.next
      apply W.reg
      apply omv; rfl; rfl
      apply obn; rfl; rfl; rfl; apply Bin.sub_in; omega
      apply oas; rfl; rfl
      apply OL.nil
      refine At.again ⟨k + 1, some ⟨g1, 0, none⟩, cap1, O1⟩ hlt (by simp only; unfold inn; omega) (by (repeat (first | exact Sub.nil | apply Sub.cons rfl | (refine Sub.cons_eq rfl (congrArg (Value.int .i64) (by first | omega | (simp only; omega))) ?_)))) (fun w' hw' => ?_)
      have e : cat cc (s.take (k + 1)) = cat cc (s.take k) ++ cc c := by rw [List.take_add_one, hc, cat_append]; rfl
      simp only [e]
      exact hw'.thin (by (repeat (first | exact Thin.nil | exact Thin.same | apply Thin.keep | (refine Thin.blk (by assumption) ?_) | (refine Thin.blk (by simp only [AllLe, and_true]; omega) ?_))))
    · have he := tw_no (p := posX) hk (fun c' r hd => by
        rw [dropc hc] at hd
        rw [← (List.cons.inj hd).1]
        refine decide_eq_false fun hc2 => ?_
        simp only [Bool.and_eq_false_iff, decide_eq_false_iff_not] at hb
        rcases hb with hb | hb
        · omega
        · exact hb hc2)
      apply W.exit
      with_reducible apply At.then_exit
      with_reducible apply At.then_exit
      with_reducible apply At.in_exit
      with_reducible apply At.next
      apply W.seq
      apply W.reg
      apply omv; rfl; rfl
      apply oas; rfl; rfl
      apply OL.nil
      with_reducible apply At.next
      apply W.ret
      ((with_reducible apply At.fin1); rfl; rfl; intro w' hw')
      exact fin w' he hw'
  · have he : k = (inn s).length := by omega
    apply W.seq
    apply W.seq
    apply W.reg
    apply omv; rfl; rfl
    apply obn; rfl; rfl; rfl; apply Bin.geq
    apply omv; rfl; rfl
    apply OL.op; exact Guard.yes rfl rfl; rfl; rfl; apply Pev.move; rfl; exact yes
    apply OL.op; exact Guard.yes rfl rfl; rfl; rfl; apply Pev.move; rfl; exact yes
    apply OL.gateOff; exact Guard.yes rfl rfl; (simp; omega); rfl
    apply OL.gateOff; exact Guard.yes rfl rfl; (simp; omega); rfl
    apply OL.gateOff; exact Guard.yes rfl rfl; (simp; omega); rfl
    apply OL.gateOff; exact Guard.yes rfl rfl; (simp; omega); rfl
    apply OL.op; exact Guard.none; rfl; rfl; apply Pev.pick_off; rfl; exact yes; (intro hcond; simp; omega); rfl; exact yes
    apply OL.nil
    with_reducible apply At.next
    refine W.cond rfl (fun hb => by cases hb) (fun _ => ?_)
    apply W.exit
    with_reducible apply At.then_exit
    with_reducible apply At.then_exit
    with_reducible apply At.in_exit
    with_reducible apply At.next
    apply W.seq
    apply W.reg
    apply omv; rfl; rfl
    apply oas; rfl; rfl
    apply OL.nil
    with_reducible apply At.next
    apply W.ret
    ((with_reducible apply At.fin1); rfl; rfl; intro w' hw')
    exact fin w' he hw'
end Go.Proofs.Ytlcclcakdfmgkaa.ly
