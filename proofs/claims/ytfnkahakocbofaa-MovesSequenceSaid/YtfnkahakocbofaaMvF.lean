/- The walks of HasInt and of the law's function literal. Conditions: none. -/
import Derived.Test.YtfnkahakocbofaaMvS
import Derived.Test.YtfnkahakocbofaaMvQ
import Derived.Test.YtfnkahakocbofaaExt
namespace Go.Proofs.Ytfnkahakocbofaa.mv
open Go.RowKit Go.Eng Go.Mv
set_option linter.unusedVariables false
set_option maxRecDepth 100000

def intv (l : List Int) : List Value := l.map fun i => Value.int .i64 i
theorem intv_length (l : List Int) : (intv l).length = l.length := by simp [intv]
theorem intv_get {l : List Int} {i : Nat} {u : Int} (h : l[i]? = some u) : (intv l)[i]? = some (.int .i64 u) := by simp [intv, h]
theorem intv_set (l : List Int) (i : Nat) (u : Int) : (intv l).set i (.int .i64 u) = intv (l.set i u) := by simp [intv, List.map_set]
theorem int_at {w : World} {B : Nat} {q : Option Addr} {l : List Int} (h : SlAt w B q (intv l)) {i : Nat} (hi : i < l.length) :
    ∃ a u, q = some a ∧ a.block < B ∧ l[i]? = some u ∧ w.cell? (a.add (i * 1)) = some (.int .i64 u) := by
  obtain ⟨a, rfl, hab, hc⟩ := h (by rw [intv_length]; omega)
  have hs : l[i]? = some l[i] := List.getElem?_eq_getElem hi
  exact ⟨a, l[i], rfl, hab, hs, by rw [Nat.mul_one]; exact hc i _ (intv_get hs)⟩

theorem HasInt_calls (q : Option Addr) (cap : Nat) (l : List Int) (v : Int) (w : World) (hlen : l.length ≤ 9223372036854775807) (h : SlAt w w.heap.size q (intv l)) :
    Calls Try.prog 5 #[.slice q l.length cap, .int .i64 v] w fun e w' => e = .returned (.bool (has l v)) ∧ Ext w w' := by
  refine enter Try.func5 rfl Try.ntmps5 rfl (Cls.start w) ?_
  (simp only [argEnv, Nat.zero_add, Nat.reduceAdd])
  apply W.seq
  apply W.reg
  apply oas; rfl; rfl
  apply OL.nil
  with_reducible apply At.next
  apply W.seq
  apply W.seq
  apply W.reg
  apply omv; rfl; rfl
  apply OL.op; exact Guard.none; rfl; rfl; apply Pev.len_slice; rfl; exact yes; rfl
  apply omv; rfl; rfl
  apply OL.nil
  with_reducible apply At.next
  apply W.block
  refine W.loop (G := Nat) (fun i => i ≤ l.length ∧ has (l.drop i) v = has l v) (fun i => l.length - i)
    (fun i => [(9, true, .int .i64 (i : Int)), (8, true, .int .i64 (l.length : Int)), (7, true, .slice q l.length cap), (1, true, .int .i64 v)])
    (fun i => Cls [] [w]) 0 ⟨by omega, rfl⟩ (by (repeat (first | exact Sub.nil | apply Sub.cons rfl))) (fun w' hw' => hw') ?_
  rintro i ⟨hi, hrest⟩
  apply W.seq
  apply W.reg
  apply obn; rfl; rfl; rfl; apply Bin.lss
  apply OL.nil
  with_reducible apply At.next
  apply W.seq
  (refine W.cond rfl (fun hlt => ?_) (fun hlt => ?_)) <;> (try (simp only [Bool.and_eq_true, Bool.or_eq_true, Bool.not_eq_true', Bool.and_eq_false_iff, Bool.or_eq_false_iff, Bool.not_eq_false', decide_eq_true_eq, decide_eq_false_iff_not, Int.not_lt, Int.not_le] at hlt)) <;> (try (exfalso; first | omega | exact hlt trivial | contradiction))
  · have hil : i < l.length := by omega
    obtain ⟨a, u, rfl, hab, hu, hcell⟩ := int_at h hil
    have hd : l.drop i = u :: l.drop (i + 1) := by
      rw [List.drop_eq_getElem_cons hil]
      rw [List.getElem?_eq_getElem hil] at hu
      rw [Option.some.inj hu]
    rw [hd] at hrest
    apply W.skip
    with_reducible apply At.next
    apply W.seq
    apply W.block
    apply W.seq
    apply W.reg
    apply OL.op; exact Guard.none; rfl; rfl; apply Pev.idx; rfl; exact yes; rfl; exact yes; rfl; rfl; intro hcond; omega
    apply OL.op; exact Guard.none; rfl; rfl; apply Pev.load_kept; rfl; exact yes; exact .head _; rfl; intro hcond; assumption; intro hcond; (rw [add_block]; assumption); intro hcond; exact NotOwned.nil
    apply oas; rfl; rfl
    apply OL.nil
    with_reducible apply At.next
    apply W.seq
    apply W.reg
    apply omv; rfl; rfl
    apply omv; rfl; rfl
    apply obn; rfl; rfl; rfl; apply Bin.eql
    apply OL.nil
    with_reducible apply At.next
    (refine W.cond rfl (fun heq => ?_) (fun heq => ?_)) <;> (try (simp only [Bool.and_eq_true, Bool.or_eq_true, Bool.not_eq_true', Bool.and_eq_false_iff, Bool.or_eq_false_iff, Bool.not_eq_false', decide_eq_true_eq, decide_eq_false_iff_not, Int.not_lt, Int.not_le] at heq)) <;> (try (exfalso; first | omega | exact heq trivial | contradiction))
    · apply W.seq
      apply W.reg
      apply oas; rfl; rfl
      apply OL.nil
      with_reducible apply At.next
      apply W.ret
      with_reducible apply At.in_ret
      with_reducible apply At.then_ret
      with_reducible apply At.then_ret
      with_reducible apply At.in_ret
      with_reducible apply At.then_ret
      ((with_reducible apply At.fin1); rfl; rfl; intro w' hw')
      subst heq
      exact ⟨by rw [← hrest]; simp [has], by (exact hw'.toExt (by (repeat (first | exact List.Mem.head _ | apply List.Mem.tail))) (fun k hk => by (focus ((try simp only [add_block]); (repeat (first | exact NotOwned.nil | refine NotOwned.blk (by omega) ?_ | refine NotOwned.row (by omega) ?_ | refine NotOwned.grid (by assumption) (by omega) ?_)); done))))⟩
    · apply W.skip
      with_reducible apply At.in_normal
      with_reducible apply At.next
      apply W.reg
      apply obn; rfl; rfl; rfl; apply Bin.add_in; omega
      apply omv; rfl; rfl
      apply OL.nil
      exact At.again (i + 1) ⟨by omega, by rw [← hrest]; simp [has, heq]⟩ (by omega) (by (repeat (first | exact Sub.nil | apply Sub.cons rfl))) (fun w' hw' => hw')
  · apply W.exit
    with_reducible apply At.then_exit
    with_reducible apply At.then_exit
    with_reducible apply At.in_exit
    with_reducible apply At.next
    apply W.seq
    apply W.reg
    apply oas; rfl; rfl
    apply OL.nil
    with_reducible apply At.next
    apply W.ret
    ((with_reducible apply At.fin1); rfl; rfl; intro w' hw')
    rw [List.drop_eq_nil_of_le (by omega)] at hrest
    exact ⟨by rw [← hrest]; rfl, by (exact hw'.toExt (by (repeat (first | exact List.Mem.head _ | apply List.Mem.tail))) (fun k hk => by (focus ((try simp only [add_block]); (repeat (first | exact NotOwned.nil | refine NotOwned.blk (by omega) ?_ | refine NotOwned.row (by omega) ?_ | refine NotOwned.grid (by assumption) (by omega) ?_)); done))))⟩

structure X7 (S : List World) where
  b1 : Nat
  hb1 : AllLe S b1
  g1 : Nat
  c1 : Nat
  O1 : Nat → Prop
  b2 : Nat
  hb2 : AllLe S b2
  g2 : Nat
  c2 : Nat
  O2 : Nat → Prop
  old : Nat → Value
/-- what the list of names and the list of values are in memory -/
structure NV where
  q1 : Option Addr
  c1 : Nat
  O1 : Nat → Prop
  q2 : Option Addr
  c2 : Nat
  O2 : Nat → Prop
abbrev nvI (B bn bv : Nat) (names vals : List Int) (x : NV) (H : List Eng.Item) : List Eng.Item :=
  row B x.O1 x.q1 names.length x.c1 3 1 (intv names) :: row B x.O2 x.q2 vals.length x.c2 3 1 (intv vals) :: blk bn 27 [.slice x.q1 names.length x.c1] :: blk bv 27 [.slice x.q2 vals.length x.c2] :: H

theorem find_calls (v : Int) (names vals : List Int) (x : NV) (B bn bv : Nat) (H : List Eng.Item) (S : List World) (w : World) (hc : Cls (nvI B bn bv names vals x H) S w) (hSB : AllLe S B) (hBS : ∃ s ∈ S, B ≤ s.heap.size) (hn : names.length ≤ 100000) (hv : vals.length = names.length) :
    Calls Try.prog 6 #[.int .i64 v, .pointer (some ⟨bn, 0, none⟩), .pointer (some ⟨bv, 0, none⟩)] w fun e w' => ∃ y : NV, e = .returned (.int .i64 (fI names v)) ∧ True ∧ Cls (nvI B bn bv (fN names v) (fV names vals v) y H) S w' := by
  obtain ⟨q1, c1, O1, q2, c2, O2⟩ := x
  have hrow := SlAt.of_row (hc.item (i := row B O1 q1 names.length c1 3 1 (intv names)) (.head _))
  refine enter Try.func6 rfl Try.ntmps6 rfl (by unfold nvI at hc; exact hc) ?_
  simp only
  (simp only [argEnv, Nat.zero_add, Nat.reduceAdd])
  apply W.seq
  apply W.reg
  apply oas; rfl; rfl
  apply OL.nil
  with_reducible apply At.next
  apply W.seq
  apply W.seq
  apply W.reg
  apply old; rfl; rfl; exact .tail _ (.tail _ (.head _)); rfl; rfl
  apply OL.op; exact Guard.none; rfl; rfl; apply Pev.len_slice; rfl; exact yes; rfl
  apply omv; rfl; rfl
  apply OL.nil
  with_reducible apply At.next
  apply W.block
  refine W.loop (G := Nat) (fun i => i ≤ names.length ∧ (∀ u ∈ names.take i, u ≠ v) ∧ idxP (fun u => decide (u = v)) (names.drop i) i = idxP (fun u => decide (u = v)) names 0) (fun i => names.length - i)
    (fun i => [(9, true, .int .i64 (i : Int)), (8, true, .int .i64 (names.length : Int)), (7, true, .slice q1 names.length c1), (0, true, .int .i64 v), (1, true, .pointer (some ⟨bn, 0, none⟩)), (2, true, .pointer (some ⟨bv, 0, none⟩))])
    (fun i => Cls (row B O1 q1 names.length c1 3 1 (intv names) :: row B O2 q2 vals.length c2 3 1 (intv vals) :: blk bn 27 [.slice q1 names.length c1] :: blk bv 27 [.slice q2 vals.length c2] :: H) S) 0 ⟨by omega, fun u hu => by simp at hu, rfl⟩ (by (repeat (first | exact Sub.nil | apply Sub.cons rfl))) (fun w' hw' => hw') ?_
  rintro i ⟨hi, hno, hrest⟩
  apply W.seq
  apply W.reg
  apply obn; rfl; rfl; rfl; apply Bin.lss
  apply OL.nil
  with_reducible apply At.next
  apply W.seq
  (refine W.cond rfl (fun hlt => ?_) (fun hlt => ?_)) <;> (try (simp only [Bool.and_eq_true, Bool.or_eq_true, Bool.not_eq_true', Bool.and_eq_false_iff, Bool.or_eq_false_iff, Bool.not_eq_false', decide_eq_true_eq, decide_eq_false_iff_not, Int.not_lt, Int.not_le] at hlt)) <;> (try (exfalso; first | omega | exact hlt trivial | contradiction))
  · have hil : i < names.length := by omega
    obtain ⟨a, u, rfl, hab, hu, hcell⟩ := int_at hrow hil
    rw [idxP_get hu] at hrest
    apply W.skip
    with_reducible apply At.next
    apply W.seq
    apply W.block
    apply W.seq
    apply W.reg
    apply omv; rfl; rfl
    apply OL.op; exact Guard.none; rfl; rfl; apply Pev.idx; rfl; exact yes; rfl; exact yes; rfl; rfl; intro hcond; omega
    (((first | (with_reducible apply OL.op) | (with_reducible apply QL.op)); ((first | exact Guard.none | exact Guard.yes rfl rfl | exact Guard.no rfl rfl | exact Guard.cyes rfl rfl | exact Guard.cno rfl rfl)); rfl; rfl); (refine Pev.load_cls (v := .int .i64 u) rfl (by (first | exact fun _ => rfl | exact fun h => h | (intro h; simp_all; done))) rfl (fun _ w2 hw2 => ?_)))
    · obtain ⟨a', u', he, _, hu', hc'⟩ := int_at (SlAt.of_row (hw2.item (i := row B O1 (some a) names.length c1 3 1 (intv names)) (.head _))) hil
      cases he
      rw [hu] at hu'
      rw [Option.some.inj hu']
      exact hc'
    apply oas; rfl; rfl
    apply oas; rfl; rfl
    apply OL.nil
    with_reducible apply At.next
    apply W.seq
    apply W.reg
    apply omv; rfl; rfl
    apply omv; rfl; rfl
    apply obn; rfl; rfl; rfl; apply Bin.eql
    apply OL.nil
    with_reducible apply At.next
    (refine W.cond rfl (fun heq => ?_) (fun heq => ?_)) <;> (try (simp only [Bool.and_eq_true, Bool.or_eq_true, Bool.not_eq_true', Bool.and_eq_false_iff, Bool.or_eq_false_iff, Bool.not_eq_false', decide_eq_true_eq, decide_eq_false_iff_not, Int.not_lt, Int.not_le] at heq)) <;> (try (exfalso; first | omega | exact heq trivial | contradiction))
    · apply W.seq
      apply W.reg
      apply omv; rfl; rfl
      apply oas; rfl; rfl
      apply OL.nil
      with_reducible apply At.next
      apply W.ret
      with_reducible apply At.in_ret
      with_reducible apply At.then_ret
      with_reducible apply At.then_ret
      with_reducible apply At.in_ret
      with_reducible apply At.then_ret
      ((with_reducible apply At.fin1); rfl; rfl; intro w' hw')
      subst heq
      have hh : has names u = true := has_iff.2 (List.mem_of_getElem? hu)
      rw [if_pos (by simp)] at hrest
      refine ⟨⟨some a, c1, O1, q2, c2, O2⟩, ?_, trivial, ?_⟩
      · simp [fI, hh, hrest]
      · simp only [fN, fV, hh, if_true]
        exact hw'
    · apply W.skip
      with_reducible apply At.in_normal
      with_reducible apply At.next
      apply W.reg
      apply obn; rfl; rfl; rfl; apply Bin.add_in; omega
      apply omv; rfl; rfl
      apply OL.nil
      rw [if_neg (by simpa using heq)] at hrest
      refine At.again (i + 1) ⟨by omega, fun u' hu' => ?_, hrest⟩ (by omega) (by (repeat (first | exact Sub.nil | apply Sub.cons rfl))) (fun w' hw' => hw')
      rw [List.take_add_one, hu] at hu'
      rcases List.mem_append.1 hu' with h1 | h1
      · exact hno u' h1
      · simp only [Option.toList_some, List.mem_singleton] at h1
        rw [h1]; exact heq
  · obtain rfl : i = names.length := by omega
    rw [List.take_length] at hno
    have hh : has names v = false := by
      rw [Bool.eq_false_iff]
      exact fun ht => hno v (has_iff.1 ht) rfl
    apply W.exit
    with_reducible apply At.then_exit
    with_reducible apply At.then_exit
    with_reducible apply At.in_exit
    with_reducible apply At.next
    apply W.seq
    refine W.regany (X := X7 S) (fun x e => [(26, true, bif e 7 then .slice (some ⟨x.g2, 0, none⟩) (vals.length + 1) x.c2 else x.old 26), (25, true, bif e 6 then .slice (some ⟨x.b2, 0, none⟩) 1 1 else x.old 25), (24, true, bif e 5 then .int .i64 v else x.old 24), (23, true, bif e 4 then .slice q2 vals.length c2 else x.old 23),
        (22, true, bif e 3 then .slice (some ⟨x.g1, 0, none⟩) (names.length + 1) x.c1 else x.old 22), (21, true, bif e 2 then .slice (some ⟨x.b1, 0, none⟩) 1 1 else x.old 21), (20, true, bif e 1 then .int .i64 v else x.old 20), (19, true, bif e 0 then .slice q1 names.length c1 else x.old 19),
        (0, true, .int .i64 v), (1, true, .pointer (some ⟨bn, 0, none⟩)), (2, true, .pointer (some ⟨bv, 0, none⟩))])
      (fun x e => (bif e 2 then blk x.b1 3 [.int .i64 v] else nothing) :: (bif e 6 then blk x.b2 3 [.int .i64 v] else nothing) ::
        (bif e 3 then row B x.O1 (some ⟨x.g1, 0, none⟩) (names.length + 1) x.c1 3 1 (intv names ++ [.int .i64 v]) else row B O1 q1 names.length c1 3 1 (intv names)) ::
        (bif e 7 then row B x.O2 (some ⟨x.g2, 0, none⟩) (vals.length + 1) x.c2 3 1 (intv vals ++ [.int .i64 v]) else row B O2 q2 vals.length c2 3 1 (intv vals)) ::
        blk bn 27 [bif e 8 then .slice (some ⟨x.g1, 0, none⟩) (names.length + 1) x.c1 else .slice q1 names.length c1] :: blk bv 27 [bif e 9 then .slice (some ⟨x.g2, 0, none⟩) (vals.length + 1) x.c2 else .slice q2 vals.length c2] :: H)
      (fun old => ⟨B, hSB, 0, 0, fun _ => False, B, hSB, 0, 0, fun _ => False, old⟩) (by kernel_rfl) (by kernel_rfl) (fun w hw => hw.drew) (fun old => by repeat (first | exact SubO.nil | apply SubO.cons rfl | refine SubO.old rfl ?_)) (fun old w' hw' => hw'.nothing_cons.nothing_cons) ?_ ?_
    · intro x e i o ho hei hd hcl
      have hx1 := x.hb1
      have hx2 := x.hb2
      have hi : i < 10 := (List.getElem?_eq_some_iff.1 ho).1
      obtain rfl | rfl | rfl | rfl | rfl | rfl | rfl | rfl | rfl | rfl : i = 0 ∨ i = 1 ∨ i = 2 ∨ i = 3 ∨ i = 4 ∨ i = 5 ∨ i = 6 ∨ i = 7 ∨ i = 8 ∨ i = 9 := by omega
      · cases ho
        have h8 : e 8 = false := hcl.not (i := 0) (j := 8) rfl hei (by kernel_rfl)
        have v0 : Eng.upd e 0 0 = true := upd_eq
        have v8 : Eng.upd e 0 8 = false := h8
        simp only [hei, h8, cond_true, cond_false]
        apply old; rfl; rfl; apply List.Mem.tail; apply List.Mem.tail; exact .tail _ (.tail _ (.head _)); rfl; rfl
        apply OL.nil
        exact At.beside x (by repeat (first | exact Sub.nil | apply Sub.cons rfl | refine Sub.cons_eq rfl (by simp only [v0, v8, cond_true, cond_false]) ?_)) (fun w' hw' => by first | exact hw' | (simp only [v0, v8, cond_true, cond_false]; exact hw'))
      · cases ho
        have v1 : Eng.upd e 1 1 = true := upd_eq
        simp only [hei, cond_true, cond_false]
        apply omv; rfl; rfl
        apply OL.nil
        exact At.beside x (by repeat (first | exact Sub.nil | apply Sub.cons rfl | refine Sub.cons_eq rfl (by simp only [v1, cond_true, cond_false]) ?_)) (fun w' hw' => by first | exact hw' | (simp only [v1, cond_true, cond_false]; exact hw'))
      · cases ho
        have h1 : e 1 = true := hd ⟨1, .data⟩ (by simp) rfl
        have v2 : Eng.upd e 2 2 = true := upd_eq
        have v1 : Eng.upd e 2 1 = true := upd_mono h1
        simp only [hei, h1, cond_true, cond_false]
        apply OL.buildSlice; rfl; rfl; rfl; apply Elems.cons rfl; exact CellsL.one rfl; rfl; apply Elems.nil; apply App.cons; apply App.nil; rfl; rfl; intro bk hbk
        apply OL.nil
        exact At.beside { x with b1 := bk, hb1 := hbk } (by repeat (first | exact Sub.nil | apply Sub.cons rfl | refine Sub.cons_eq rfl (by simp only [v2, v1, cond_true, cond_false]) ?_)) (fun w' hw' => by simp only [v2, v1, cond_true, cond_false]; exact Cls.fill (p := 0) (H := _ :: _ :: _ :: _ :: _ :: _ :: H) .z hw')
      · cases ho
        have h0 : e 0 = true := hd ⟨0, .data⟩ (by simp) rfl
        have h2 : e 2 = true := hd ⟨2, .data⟩ (by simp) rfl
        have h8 : e 8 = false := hcl.not (i := 3) (j := 8) rfl hei (by kernel_rfl)
        have v3 : Eng.upd e 3 3 = true := upd_eq
        have v0 : Eng.upd e 3 0 = true := upd_mono h0
        have v2 : Eng.upd e 3 2 = true := upd_mono h2
        have v8 : Eng.upd e 3 8 = false := h8
        simp only [hei, h0, h2, h8, cond_true, cond_false]
        apply OL.append; rfl; rfl; rfl; rfl; apply Hole.s; apply Hole.s; apply Hole.z; exact .head _; apply Take.succ; apply Take.zero; rfl; rfl; assumption; omega; intro O1 g1 cap1
        apply OL.nil
        exact At.beside { x with g1 := g1, c1 := cap1, O1 := O1 } (by repeat (first | exact Sub.nil | apply Sub.cons rfl | refine Sub.cons_eq rfl (by simp only [v3, v0, v2, v8, cond_true, cond_false]) ?_)) (fun w' hw' => by first | exact hw' | (simp only [v3, v0, v2, v8, cond_true, cond_false]; exact hw'))
      · cases ho
        have h9 : e 9 = false := hcl.not (i := 4) (j := 9) rfl hei (by kernel_rfl)
        have v4 : Eng.upd e 4 4 = true := upd_eq
        have v9 : Eng.upd e 4 9 = false := h9
        simp only [hei, h9, cond_true, cond_false]
        apply old; rfl; rfl; apply List.Mem.tail; apply List.Mem.tail; apply List.Mem.tail; exact .tail _ (.tail _ (.head _)); rfl; rfl
        apply OL.nil
        exact At.beside x (by repeat (first | exact Sub.nil | apply Sub.cons rfl | refine Sub.cons_eq rfl (by simp only [v4, v9, cond_true, cond_false]) ?_)) (fun w' hw' => by first | exact hw' | (simp only [v4, v9, cond_true, cond_false]; exact hw'))
      · cases ho
        have v5 : Eng.upd e 5 5 = true := upd_eq
        simp only [hei, cond_true, cond_false]
        apply omv; rfl; rfl
        apply OL.nil
        exact At.beside x (by repeat (first | exact Sub.nil | apply Sub.cons rfl | refine Sub.cons_eq rfl (by simp only [v5, cond_true, cond_false]) ?_)) (fun w' hw' => by first | exact hw' | (simp only [v5, cond_true, cond_false]; exact hw'))
      · cases ho
        have h5 : e 5 = true := hd ⟨5, .data⟩ (by simp) rfl
        have v6 : Eng.upd e 6 6 = true := upd_eq
        have v5 : Eng.upd e 6 5 = true := upd_mono h5
        simp only [hei, h5, cond_true, cond_false]
        apply OL.buildSlice; rfl; rfl; rfl; apply Elems.cons rfl; exact CellsL.one rfl; rfl; apply Elems.nil; apply App.cons; apply App.nil; rfl; rfl; intro bk hbk
        apply OL.nil
        exact At.beside { x with b2 := bk, hb2 := hbk } (by repeat (first | exact Sub.nil | apply Sub.cons rfl | refine Sub.cons_eq rfl (by simp only [v6, v5, cond_true, cond_false]) ?_)) (fun w' hw' => by simp only [v6, v5, cond_true, cond_false]; exact Cls.fill (p := 1) (H := _ :: _ :: _ :: _ :: _ :: _ :: H) (.s .z) hw')
      · cases ho
        have h4 : e 4 = true := hd ⟨4, .data⟩ (by simp) rfl
        have h6 : e 6 = true := hd ⟨6, .data⟩ (by simp) rfl
        have h9 : e 9 = false := hcl.not (i := 7) (j := 9) rfl hei (by kernel_rfl)
        have v7 : Eng.upd e 7 7 = true := upd_eq
        have v4 : Eng.upd e 7 4 = true := upd_mono h4
        have v6 : Eng.upd e 7 6 = true := upd_mono h6
        have v9 : Eng.upd e 7 9 = false := h9
        simp only [hei, h4, h6, h9, cond_true, cond_false]
        apply OL.append; rfl; rfl; rfl; rfl; apply Hole.s; apply Hole.s; apply Hole.s; apply Hole.z; exact .tail _ (.head _); apply Take.succ; apply Take.zero; rfl; rfl; assumption; omega; intro O1 g1 cap1
        apply OL.nil
        exact At.beside { x with g2 := g1, c2 := cap1, O2 := O1 } (by repeat (first | exact Sub.nil | apply Sub.cons rfl | refine Sub.cons_eq rfl (by simp only [v7, v4, v6, v9, cond_true, cond_false]) ?_)) (fun w' hw' => by first | exact hw' | (simp only [v7, v4, v6, v9, cond_true, cond_false]; exact hw'))
      · cases ho
        have h3 : e 3 = true := hd ⟨3, .data⟩ (by simp) rfl
        have v8 : Eng.upd e 8 8 = true := upd_eq
        have v3 : Eng.upd e 8 3 = true := upd_mono h3
        simp only [hei, h3, cond_true, cond_false]
        apply OL.storeB; rfl; rfl; exact CellsL.one rfl; rfl; rfl; rfl; apply Swap.s; apply Swap.s; apply Swap.s; apply Swap.s; apply Swap.z; apply Put.here; apply Over.cons; apply Over.nil
        apply OL.nil
        exact At.beside x (by repeat (first | exact Sub.nil | apply Sub.cons rfl | refine Sub.cons_eq rfl (by simp only [v8, v3, cond_true, cond_false]) ?_)) (fun w' hw' => by first | exact hw' | (simp only [v8, v3, cond_true, cond_false]; exact hw'))
      · cases ho
        have h7 : e 7 = true := hd ⟨7, .data⟩ (by simp) rfl
        have v9 : Eng.upd e 9 9 = true := upd_eq
        have v7 : Eng.upd e 9 7 = true := upd_mono h7
        simp only [hei, h7, cond_true, cond_false]
        apply OL.storeB; rfl; rfl; exact CellsL.one rfl; rfl; rfl; rfl; apply Swap.s; apply Swap.s; apply Swap.s; apply Swap.s; apply Swap.s; apply Swap.z; apply Put.here; apply Over.cons; apply Over.nil
        apply OL.nil
        exact At.beside x (by repeat (first | exact Sub.nil | apply Sub.cons rfl | refine Sub.cons_eq rfl (by simp only [v9, v7, cond_true, cond_false]) ?_)) (fun w' hw' => by first | exact hw' | (simp only [v9, v7, cond_true, cond_false]; exact hw'))
    · intro x e hall
      have h2 := hall 2 (by decide)
      have h3 := hall 3 (by decide)
      have h6 := hall 6 (by decide)
      have h7 := hall 7 (by decide)
      have h8 := hall 8 (by decide)
      have h9 := hall 9 (by decide)
      simp only [h2, h3, h6, h7, h8, h9, cond_true]
      have hx1 := x.hb1
      have hx2 := x.hb2
      with_reducible apply At.next
      apply W.seq
      apply W.reg
      apply old; rfl; rfl; apply List.Mem.tail; apply List.Mem.tail; exact .tail _ (.tail _ (.head _)); rfl; rfl
      apply OL.op; exact Guard.none; rfl; rfl; apply Pev.len_slice; rfl; exact yes; rfl
      apply obn; rfl; rfl; rfl; apply Bin.sub_in; omega
      apply oas; rfl; rfl
      apply OL.nil
      with_reducible apply At.next
      apply W.ret
      ((with_reducible apply At.fin1); rfl; rfl; intro w' hw')
      refine ⟨⟨some ⟨x.g1, 0, none⟩, x.c1, x.O1, some ⟨x.g2, 0, none⟩, x.c2, x.O2⟩, ?_, trivial, ?_⟩
      · simp only [fI, hh, Bool.false_eq_true, if_false]
        congr 2
        omega
      · have e1 : (names ++ [v]).length = names.length + 1 := by simp
        have e2 : (vals ++ [v]).length = vals.length + 1 := by simp
        have e3 : intv (names ++ [v]) = intv names ++ [.int .i64 v] := by simp [intv]
        have e4 : intv (vals ++ [v]) = intv vals ++ [.int .i64 v] := by simp [intv]
        simp only [fN, fV, hh, Bool.false_eq_true, if_false, nvI, e1, e2, e3, e4]
        exact hw'.thin (Thin.blk hx1 (Thin.blk hx2 Thin.same))
end Go.Proofs.Ytfnkahakocbofaa.mv
