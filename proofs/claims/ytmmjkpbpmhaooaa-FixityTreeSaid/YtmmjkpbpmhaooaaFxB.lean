/- The walks of put and climb. Conditions: none. -/
import Derived.Test.YtmmjkpbpmhaooaaFxA
import Derived.Test.YtmmjkpbpmhaooaaFxT
namespace Go.Proofs.Ytmmjkpbpmhaooaa.fx
open Go.RowKit Go.Eng Go.Fx
set_option linter.unusedVariables false
set_option maxRecDepth 100000

structure RW where
  q : Option Addr
  c : Nat
  O : Nat → Prop
def nv (x : Nod) : Value := .agg (nc x).toArray
/-- the builder in memory -/
abbrev bI (B bb : Nat) (tv iv : Value) (at_ : Int) (out : List Nod) (e : Int) (x : RW) (H : List Eng.Item) : List Eng.Item :=
  row B x.O x.q out.length x.c 45 4 (cat nc out) :: blk bb 56 [tv, iv, .int .i64 at_, .slice x.q out.length x.c, .int .i64 e] :: H
structure XP (w0 : World) where
  b1 : Nat
  hb1 : w0.heap.size ≤ b1
  g1 : Nat
  c1 : Nat
  O1 : Nat → Prop
  old : Nat → Value

theorem put_calls (nd : Nod) (B bb : Nat) (tv iv : Value) (at_ : Int) (out : List Nod) (e0 : Int) (x : RW) (H : List Eng.Item) (w0 w : World) (hc : Cls (bI B bb tv iv at_ out e0 x H) [w0] w) (hB : B = w0.heap.size) (hol : out.length ≤ 100000) :
    Calls Try.prog 33 #[.pointer (some ⟨bb, 0, none⟩), nv nd] w fun r w' => ∃ y : RW, r = .returned (.int .i64 (out.length : Int)) ∧ True ∧ Cls (bI B bb tv iv at_ (out ++ [nd]) e0 y H) [w0] w' := by
  obtain ⟨q, c, O⟩ := x
  subst hB
  refine enter Try.func33 rfl Try.ntmps33 rfl hc ?_
  (simp only [argEnv, Nat.zero_add, Nat.reduceAdd])
  unfold nv nc
  apply W.seq
  apply W.reg
  apply OL.box; rfl; rfl; exact CellsL.agg; (intro bk hbk; simp only [AllLe, and_true] at hbk)
  apply oas; rfl; rfl
  apply OL.nil
  with_reducible apply At.next
  apply W.seq
  revert bk
  intro b3 hb3
  refine W.regany (X := XP w0) (fun x e => [(14, true, bif e 9 then .pointer (some ⟨bb, 0 + 3, none⟩) else x.old 14), (13, true, bif e 8 then .pointer (some ⟨bb, 0, none⟩) else x.old 13), (12, true, bif e 7 then .slice (some ⟨x.g1, 0, none⟩) (out.length + 1) x.c1 else x.old 12), (11, true, bif e 6 then .slice (some ⟨x.b1, 0, none⟩) 1 1 else x.old 11), (10, true, bif e 5 then .agg #[.string nd.op, .int .i64 nd.n, .int .i64 nd.a, .int .i64 nd.b] else x.old 10), (9, true, bif e 4 then .slice q out.length c else x.old 9), (8, true, bif e 3 then .pointer (some ⟨bb, 0 + 3, none⟩) else x.old 8), (7, true, bif e 2 then .pointer (some ⟨bb, 0, none⟩) else x.old 7), (6, true, bif e 1 then .pointer (some ⟨bb, 0, none⟩) else x.old 6), (5, true, bif e 0 then .pointer (some ⟨bb, 0, none⟩) else x.old 5), (3, true, .pointer (some ⟨b3, 0, none⟩)), (0, true, .pointer (some ⟨bb, 0, none⟩))])
    (fun x e => (bif e 6 then blk x.b1 45 [.string nd.op, .int .i64 nd.n, .int .i64 nd.a, .int .i64 nd.b] else nothing) :: (blk b3 45 [.string nd.op, .int .i64 nd.n, .int .i64 nd.a, .int .i64 nd.b]) :: (bif e 7 then row w0.heap.size x.O1 (some ⟨x.g1, 0, none⟩) (out.length + 1) x.c1 45 4 (cat nc out ++ [.string nd.op, .int .i64 nd.n, .int .i64 nd.a, .int .i64 nd.b]) else row w0.heap.size O q out.length c 45 4 (cat nc out)) :: (blk bb 56 [tv, iv, .int .i64 at_, bif e 10 then .slice (some ⟨x.g1, 0, none⟩) (out.length + 1) x.c1 else .slice q out.length c, .int .i64 e0]) :: H)
    (fun old => ⟨w0.heap.size, Nat.le_refl _, 0, 0, fun _ => False, old⟩) (by kernel_rfl) (by kernel_rfl) (fun w hw => hw.drew) (fun old => by repeat (first | exact SubO.nil | apply SubO.cons rfl | refine SubO.old rfl ?_)) (fun old w' hw' => hw'.nothing_cons) ?_ ?_
  · intro x e i o ho hei hd hcl
    have hi : i < 11 := (List.getElem?_eq_some_iff.1 ho).1
    obtain rfl | rfl | rfl | rfl | rfl | rfl | rfl | rfl | rfl | rfl | rfl : i = 0 ∨ i = 1 ∨ i = 2 ∨ i = 3 ∨ i = 4 ∨ i = 5 ∨ i = 6 ∨ i = 7 ∨ i = 8 ∨ i = 9 ∨ i = 10 := by omega
    · cases ho
      have v0 : Eng.upd e 0 0 = true := upd_eq
      simp only [hei, cond_true, cond_false]
      apply omv; rfl; rfl
      apply OL.nil
      exact At.beside x (by repeat (first | exact Sub.nil | apply Sub.cons rfl | refine Sub.cons_eq rfl (by simp only [v0, cond_true, cond_false]) ?_)) (fun w' hw' => by first | exact hw' | (simp only [v0, cond_true, cond_false]; exact hw'))
    · cases ho
      have v1 : Eng.upd e 1 1 = true := upd_eq
      simp only [hei, cond_true, cond_false]
      apply omv; rfl; rfl
      apply OL.nil
      exact At.beside x (by repeat (first | exact Sub.nil | apply Sub.cons rfl | refine Sub.cons_eq rfl (by simp only [v1, cond_true, cond_false]) ?_)) (fun w' hw' => by first | exact hw' | (simp only [v1, cond_true, cond_false]; exact hw'))
    · cases ho
      have h1 : e 1 = true := hd ⟨1, .data⟩ (by simp) rfl
      have v2 : Eng.upd e 2 2 = true := upd_eq
      have v1 : Eng.upd e 2 1 = true := upd_mono h1
      simp only [hei, h1, cond_true, cond_false]
      apply OL.op; exact Guard.none; rfl; rfl; apply Pev.nil_ptr; rfl; exact yes
      apply OL.nil
      exact At.beside x (by repeat (first | exact Sub.nil | apply Sub.cons rfl | refine Sub.cons_eq rfl (by simp only [v2, v1, cond_true, cond_false]) ?_)) (fun w' hw' => by first | exact hw' | (simp only [v2, v1, cond_true, cond_false]; exact hw'))
    · cases ho
      have h2 : e 2 = true := hd ⟨2, .data⟩ (by simp) rfl
      have v3 : Eng.upd e 3 3 = true := upd_eq
      have v2 : Eng.upd e 3 2 = true := upd_mono h2
      simp only [hei, h2, cond_true, cond_false]
      apply ofa; rfl; rfl; rfl
      apply OL.nil
      exact At.beside x (by repeat (first | exact Sub.nil | apply Sub.cons rfl | refine Sub.cons_eq rfl (by simp only [v3, v2, cond_true, cond_false]) ?_)) (fun w' hw' => by first | exact hw' | (simp only [v3, v2, cond_true, cond_false]; exact hw'))
    · cases ho
      have h3 : e 3 = true := hd ⟨3, .data⟩ (by simp) rfl
      have h7 : e 7 = false := hcl.not (i := 4) (j := 7) rfl hei (by kernel_rfl)
      have h10 : e 10 = false := hcl.not (i := 7) (j := 10) rfl h7 (by kernel_rfl)
      have v4 : Eng.upd e 4 4 = true := upd_eq
      have v3 : Eng.upd e 4 3 = true := upd_mono h3
      have v7 : Eng.upd e 4 7 = false := h7
      have v10 : Eng.upd e 4 10 = false := h10
      simp only [hei, h3, h7, h10, cond_true, cond_false]
      apply old; rfl; rfl; apply List.Mem.tail; exact .tail _ (.tail _ (.head _)); rfl; rfl
      apply OL.nil
      exact At.beside x (by repeat (first | exact Sub.nil | apply Sub.cons rfl | refine Sub.cons_eq rfl (by simp only [v4, v3, v7, v10, cond_true, cond_false]) ?_)) (fun w' hw' => by first | exact hw' | (simp only [v4, v3, v7, v10, cond_true, cond_false]; exact hw'))
    · cases ho
      have v5 : Eng.upd e 5 5 = true := upd_eq
      simp only [hei, cond_true, cond_false]
      apply OL.op; exact Guard.none; rfl; rfl; apply Pev.load_blkA; rfl; exact yes; exact .tail _ (.head _); rfl; apply Take.succ; apply Take.succ; apply Take.succ; apply Take.succ; apply Take.zero
      apply OL.nil
      exact At.beside x (by repeat (first | exact Sub.nil | apply Sub.cons rfl | refine Sub.cons_eq rfl (by simp only [v5, cond_true, cond_false]) ?_)) (fun w' hw' => by first | exact hw' | (simp only [v5, cond_true, cond_false]; exact hw'))
    · cases ho
      have h5 : e 5 = true := hd ⟨5, .data⟩ (by simp) rfl
      have v6 : Eng.upd e 6 6 = true := upd_eq
      have v5 : Eng.upd e 6 5 = true := upd_mono h5
      simp only [hei, h5, cond_true, cond_false]
      apply OL.buildSlice; rfl; rfl; rfl; apply Elems.cons rfl; exact CellsL.agg; rfl; apply Elems.nil; apply App.cons; apply App.cons; apply App.cons; apply App.cons; apply App.nil; rfl; rfl; (intro bk hbk; simp only [AllLe, and_true] at hbk)
      apply OL.nil
      exact At.beside { x with b1 := bk, hb1 := hbk } (by repeat (first | exact Sub.nil | apply Sub.cons rfl | refine Sub.cons_eq rfl (by simp only [v6, v5, cond_true, cond_false]) ?_)) (fun w' hw' => by simp only [v6, v5, cond_true, cond_false]; exact Cls.fill (p := 0) (H := _ :: _ :: _ :: _ :: H) .z hw')
    · cases ho
      have h4 : e 4 = true := hd ⟨4, .data⟩ (by simp) rfl
      have h6 : e 6 = true := hd ⟨6, .data⟩ (by simp) rfl
      have h10 : e 10 = false := hcl.not (i := 7) (j := 10) rfl hei (by kernel_rfl)
      have v7 : Eng.upd e 7 7 = true := upd_eq
      have v4 : Eng.upd e 7 4 = true := upd_mono h4
      have v6 : Eng.upd e 7 6 = true := upd_mono h6
      have v10 : Eng.upd e 7 10 = false := h10
      simp only [hei, h4, h6, h10, cond_true, cond_false]
      apply OL.append; rfl; rfl; rfl; rfl; apply Hole.s; apply Hole.s; apply Hole.z; exact .head _; apply Take.succ; apply Take.succ; apply Take.succ; apply Take.succ; apply Take.zero; rfl; rfl; exact ⟨_, .head _, Nat.le_refl _⟩; omega; intro O1 g1 cap1
      apply OL.nil
      exact At.beside { x with g1 := g1, c1 := cap1, O1 := O1 } (by repeat (first | exact Sub.nil | apply Sub.cons rfl | refine Sub.cons_eq rfl (by simp only [v7, v4, v6, v10, cond_true, cond_false]) ?_)) (fun w' hw' => by first | exact hw' | (simp only [v7, v4, v6, v10, cond_true, cond_false]; exact hw'))
    · cases ho
      have h0 : e 0 = true := hd ⟨0, .data⟩ (by simp) rfl
      have v8 : Eng.upd e 8 8 = true := upd_eq
      have v0 : Eng.upd e 8 0 = true := upd_mono h0
      simp only [hei, h0, cond_true, cond_false]
      apply OL.op; exact Guard.none; rfl; rfl; apply Pev.nil_ptr; rfl; exact yes
      apply OL.nil
      exact At.beside x (by repeat (first | exact Sub.nil | apply Sub.cons rfl | refine Sub.cons_eq rfl (by simp only [v8, v0, cond_true, cond_false]) ?_)) (fun w' hw' => by first | exact hw' | (simp only [v8, v0, cond_true, cond_false]; exact hw'))
    · cases ho
      have h8 : e 8 = true := hd ⟨8, .data⟩ (by simp) rfl
      have v9 : Eng.upd e 9 9 = true := upd_eq
      have v8 : Eng.upd e 9 8 = true := upd_mono h8
      simp only [hei, h8, cond_true, cond_false]
      apply ofa; rfl; rfl; rfl
      apply OL.nil
      exact At.beside x (by repeat (first | exact Sub.nil | apply Sub.cons rfl | refine Sub.cons_eq rfl (by simp only [v9, v8, cond_true, cond_false]) ?_)) (fun w' hw' => by first | exact hw' | (simp only [v9, v8, cond_true, cond_false]; exact hw'))
    · cases ho
      have h7 : e 7 = true := hd ⟨7, .data⟩ (by simp) rfl
      have h9 : e 9 = true := hd ⟨9, .data⟩ (by simp) rfl
      have v10 : Eng.upd e 10 10 = true := upd_eq
      have v7 : Eng.upd e 10 7 = true := upd_mono h7
      have v9 : Eng.upd e 10 9 = true := upd_mono h9
      simp only [hei, h7, h9, cond_true, cond_false]
      apply OL.storeB; rfl; rfl; exact CellsL.one rfl; rfl; rfl; rfl; apply Swap.s; apply Swap.s; apply Swap.s; apply Swap.z; apply Put.skip; apply Put.skip; apply Put.skip; apply Put.here; apply Over.cons; apply Over.nil
      apply OL.nil
      exact At.beside x (by repeat (first | exact Sub.nil | apply Sub.cons rfl | refine Sub.cons_eq rfl (by simp only [v10, v7, v9, cond_true, cond_false]) ?_)) (fun w' hw' => by first | exact hw' | (simp only [v10, v7, v9, cond_true, cond_false]; exact hw'))
  · intro x e' hall
    have h6 := hall 6 (by decide)
    have h7 := hall 7 (by decide)
    have h10 := hall 10 (by decide)
    simp only [h6, h7, h10, cond_true]
    have hx1 := x.hb1
    have e1 : (out ++ [nd]).length = out.length + 1 := by simp
    have e2 : cat nc (out ++ [nd]) = cat nc out ++ [.string nd.op, .int .i64 nd.n, .int .i64 nd.a, .int .i64 nd.b] := by rw [cat_append, cat_one]; rfl
    with_reducible apply At.next
    apply W.seq
    apply W.reg
    apply omv; rfl; rfl
    apply OL.op; exact Guard.none; rfl; rfl; apply Pev.nil_ptr; rfl; exact yes
    apply ofa; rfl; rfl; rfl
    apply old; rfl; rfl; apply List.Mem.tail; exact .tail _ (.tail _ (.head _)); rfl; rfl
    apply OL.op; exact Guard.none; rfl; rfl; apply Pev.len_slice; rfl; exact yes; rfl
    apply obn; rfl; rfl; rfl; apply Bin.sub_in; omega
    apply oas; rfl; rfl
    apply OL.nil
    with_reducible apply At.next
    apply W.ret
    ((with_reducible apply At.fin1); rfl; rfl; intro w' hw')
    refine ⟨⟨some ⟨x.g1, 0, none⟩, x.c1, x.O1⟩, ?_, trivial, ?_⟩
    · congr 2; omega
    · simp only [bI, e1, e2]
      exact hw'.thin (by (repeat (first | exact Thin.nil | exact Thin.same | apply Thin.keep | (refine Thin.blk (by assumption) ?_) | (refine Thin.blk (by simp only [AllLe, and_true]; omega) ?_))))
end Go.Proofs.Ytmmjkpbpmhaooaa.fx
