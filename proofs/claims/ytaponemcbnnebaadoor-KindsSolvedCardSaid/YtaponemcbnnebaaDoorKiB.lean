/- The walks of the kinds' solver: slot and started. Conditions: none. (Printed by kis.py.) -/
import Derived.Test.YtaponemcbnnebaaDoorKiA
import Derived.Test.YtaponemcbnnebaaDoorAny
namespace Go.Proofs.YtaponemcbnnebaaDoor.ki
open Go.RowKit Go.Eng Go.Ki
set_option linter.unusedVariables false
set_option linter.unusedSimpArgs false
set_option maxRecDepth 100000

structure XS (S : List World) where
  b1 : Nat
  hb1 : AllLe S b1
  g1 : Nat
  c1 : Nat
  O1 : Nat → Prop
  b2 : Nat
  hb2 : AllLe S b2
  g2 : Nat
  c2 : Nat
  O2 : Nat → Prop
  old : Nat → Value
theorem add_nothing3 {i j k : Eng.Item} {H : List Eng.Item} {S : List World} {w : World} (h : Cls (i :: j :: k :: H) S w) : Cls (i :: j :: k :: nothing :: nothing :: H) S w :=
  (h.nothing_cons.nothing_cons).perm (by
    have h1 : (nothing :: nothing :: i :: j :: k :: H).Perm ([nothing, nothing] ++ ([i, j, k] ++ H)) := List.Perm.refl _
    refine h1.trans ?_
    rw [← List.append_assoc]
    exact List.Perm.append_right H List.perm_append_comm)
theorem snoc_n (l : List Nat) (x : Nat) : nts l ++ [.int .i64 (x : Int)] = nts (l ++ [x]) := by simp [nts]
theorem snoc_i (l : List Int) (x : Int) : ins l ++ [.int .i64 x] = ins (l ++ [x]) := by simp [ins]
set_option maxHeartbeats 1000000 in
theorem slot_calls (L : Loc) (n : Nat) (σ : Sol) (k : Int) (H : List Eng.Item) (S : List World) (w : World) (hn : σ.up.length = n) (hn2 : σ.kind.length = n) (hlim : n ≤ 100000) (hbS : ∃ s ∈ S, L.B ≤ s.heap.size) (hbs : L.B ≤ L.bs) (hc : Cls (L.items n σ H) S w) :
    Calls Tryd.prog 21 #[.pointer (some ⟨L.bs, 0, none⟩), .int .i64 k] w fun e w' => ∃ L' : Loc, e = .returned (.int .i64 (n : Int)) ∧ (L'.B = L.B ∧ L'.bs = L.bs ∧ L'.k1 = L.k1 ∧ L'.k2 = L.k2 ∧ L'.k3 = L.k3) ∧ Cls (L'.items (n + 1) ⟨σ.up ++ [n], σ.kind ++ [k]⟩ H) S w' := by
  obtain ⟨B, bs, k1, k2, k3, O1, q1, c1, O2, q2, c2⟩ := L
  simp only [Loc.items, Loc.cells] at hc hbS hbs ⊢
  refine enter Tryd.func21 rfl Tryd.ntmps21 rfl hc ?_
  (simp only [argEnv, Nat.zero_add, Nat.reduceAdd])
  apply W.seq
  apply W.reg
  apply oas; rfl; rfl
  apply OL.nil
  with_reducible apply At.next
  apply W.seq
  refine W.regany (X := XS S) (fun x e => [(28, true, bif e 24 then .pointer (some ⟨bs, 0 + 4, none⟩) else x.old 28), (27, true, bif e 23 then .pointer (some ⟨bs, 0, none⟩) else x.old 27), (26, true, bif e 21 then .pointer (some ⟨bs, 0 + 3, none⟩) else x.old 26), (25, true, bif e 20 then .pointer (some ⟨bs, 0, none⟩) else x.old 25), (24, true, bif e 19 then .slice (some ⟨x.g2, 0, none⟩) (n + 1) x.c2 else x.old 24), (23, true, bif e 18 then .slice (some ⟨x.b2, 0, none⟩) 1 1 else x.old 23), (22, true, bif e 17 then .int .i64 k else x.old 22), (21, true, bif e 16 then .slice q2 n c2 else x.old 21), (20, true, bif e 15 then .pointer (some ⟨bs, 0 + 4, none⟩) else x.old 20), (19, true, bif e 14 then .pointer (some ⟨bs, 0, none⟩) else x.old 19), (18, true, bif e 13 then .pointer (some ⟨bs, 0, none⟩) else x.old 18), (17, true, bif e 12 then .slice (some ⟨x.g1, 0, none⟩) (n + 1) x.c1 else x.old 17), (16, true, bif e 11 then .slice (some ⟨x.b1, 0, none⟩) 1 1 else x.old 16), (15, true, bif e 10 then .int .i64 (n : Int) else x.old 15), (14, true, bif e 9 then .slice q1 n c1 else x.old 14), (13, true, bif e 8 then .pointer (some ⟨bs, 0 + 3, none⟩) else x.old 13), (12, true, bif e 7 then .pointer (some ⟨bs, 0, none⟩) else x.old 12), (11, true, bif e 6 then .pointer (some ⟨bs, 0, none⟩) else x.old 11), (10, true, bif e 5 then .slice q1 n c1 else x.old 10), (9, true, bif e 4 then .pointer (some ⟨bs, 0 + 3, none⟩) else x.old 9), (8, true, bif e 3 then .pointer (some ⟨bs, 0, none⟩) else x.old 8), (7, true, bif e 2 then .pointer (some ⟨bs, 0, none⟩) else x.old 7), (6, true, bif e 1 then .pointer (some ⟨bs, 0, none⟩) else x.old 6), (5, true, bif e 0 then .pointer (some ⟨bs, 0, none⟩) else x.old 5), (4, true, .int .i64 0), (0, true, .pointer (some ⟨bs, 0, none⟩)), (1, true, .int .i64 k)])
    (fun x e => (bif e 12 then row B x.O1 (some ⟨x.g1, 0, none⟩) (n + 1) x.c1 3 1 (nts σ.up ++ [.int .i64 (n : Int)]) else row B O1 q1 n c1 3 1 (nts σ.up)) :: (bif e 19 then row B x.O2 (some ⟨x.g2, 0, none⟩) (n + 1) x.c2 3 1 (ins σ.kind ++ [.int .i64 k]) else row B O2 q2 n c2 3 1 (ins σ.kind)) :: (blk bs 64 [k1, k2, k3, bif e 22 then .slice (some ⟨x.g1, 0, none⟩) (n + 1) x.c1 else .slice q1 n c1, bif e 25 then .slice (some ⟨x.g2, 0, none⟩) (n + 1) x.c2 else .slice q2 n c2]) :: (bif e 11 then blk x.b1 3 [.int .i64 (n : Int)] else nothing) :: (bif e 18 then blk x.b2 3 [.int .i64 k] else nothing) :: H)
    (fun old => ⟨w.heap.size, AllLe.mk hc, 0, 0, fun _ => False, w.heap.size, AllLe.mk hc, 0, 0, fun _ => False, old⟩) (by kernel_rfl) (by kernel_rfl) (fun w hw => hw.drew) (fun old => by repeat (first | exact SubO.nil | apply SubO.cons rfl | refine SubO.old rfl ?_)) (fun old w' hw' => add_nothing3 hw') ?_ ?_
  · intro x e i o ho hei hd hcl
    have hi : i < 26 := (List.getElem?_eq_some_iff.1 ho).1
    obtain rfl | rfl | rfl | rfl | rfl | rfl | rfl | rfl | rfl | rfl | rfl | rfl | rfl | rfl | rfl | rfl | rfl | rfl | rfl | rfl | rfl | rfl | rfl | rfl | rfl | rfl : i = 0 ∨ i = 1 ∨ i = 2 ∨ i = 3 ∨ i = 4 ∨ i = 5 ∨ i = 6 ∨ i = 7 ∨ i = 8 ∨ i = 9 ∨ i = 10 ∨ i = 11 ∨ i = 12 ∨ i = 13 ∨ i = 14 ∨ i = 15 ∨ i = 16 ∨ i = 17 ∨ i = 18 ∨ i = 19 ∨ i = 20 ∨ i = 21 ∨ i = 22 ∨ i = 23 ∨ i = 24 ∨ i = 25 := by omega
    · cases ho
      have v0 : Eng.upd e 0 0 = true := upd_eq
      simp only [hei, cond_true, cond_false]
      apply omv; rfl; rfl
      apply OL.nil
      exact At.beside x (by repeat (first | exact Sub.nil | apply Sub.cons rfl | refine Sub.cons_eq rfl (by simp only [v0, cond_true, cond_false]) ?_)) (fun w' hw' => by first | exact hw' | (simp only [v0, cond_true, cond_false]; exact hw'))
    · cases ho
      have v1 : Eng.upd e 1 1 = true := upd_eq
      simp only [hei, cond_true, cond_false]
      apply omv; rfl; rfl
      apply OL.nil
      exact At.beside x (by repeat (first | exact Sub.nil | apply Sub.cons rfl | refine Sub.cons_eq rfl (by simp only [v1, cond_true, cond_false]) ?_)) (fun w' hw' => by first | exact hw' | (simp only [v1, cond_true, cond_false]; exact hw'))
    · cases ho
      have v2 : Eng.upd e 2 2 = true := upd_eq
      simp only [hei, cond_true, cond_false]
      apply omv; rfl; rfl
      apply OL.nil
      exact At.beside x (by repeat (first | exact Sub.nil | apply Sub.cons rfl | refine Sub.cons_eq rfl (by simp only [v2, cond_true, cond_false]) ?_)) (fun w' hw' => by first | exact hw' | (simp only [v2, cond_true, cond_false]; exact hw'))
    · cases ho
      have h2 : e 2 = true := hd ⟨2, .data⟩ (by simp) rfl
      have v3 : Eng.upd e 3 3 = true := upd_eq
      have v2 : Eng.upd e 3 2 = true := upd_mono h2
      simp only [hei, h2, cond_true, cond_false]
      apply OL.op; exact Guard.none; rfl; rfl; apply Pev.nil_ptr; rfl; exact yes
      apply OL.nil
      exact At.beside x (by repeat (first | exact Sub.nil | apply Sub.cons rfl | refine Sub.cons_eq rfl (by simp only [v3, v2, cond_true, cond_false]) ?_)) (fun w' hw' => by first | exact hw' | (simp only [v3, v2, cond_true, cond_false]; exact hw'))
    · cases ho
      have h3 : e 3 = true := hd ⟨3, .data⟩ (by simp) rfl
      have v4 : Eng.upd e 4 4 = true := upd_eq
      have v3 : Eng.upd e 4 3 = true := upd_mono h3
      simp only [hei, h3, cond_true, cond_false]
      apply ofa; rfl; rfl; rfl
      apply OL.nil
      exact At.beside x (by repeat (first | exact Sub.nil | apply Sub.cons rfl | refine Sub.cons_eq rfl (by simp only [v4, v3, cond_true, cond_false]) ?_)) (fun w' hw' => by first | exact hw' | (simp only [v4, v3, cond_true, cond_false]; exact hw'))
    · cases ho
      have h4 : e 4 = true := hd ⟨4, .data⟩ (by simp) rfl
      have h22 : e 22 = false := hcl.not (i := 5) (j := 22) rfl hei (by kernel_rfl)
      have v5 : Eng.upd e 5 5 = true := upd_eq
      have v4 : Eng.upd e 5 4 = true := upd_mono h4
      have v22 : Eng.upd e 5 22 = false := h22
      simp only [hei, h4, h22, cond_true, cond_false]
      apply old; rfl; rfl; exact .tail _ (.tail _ (.head _)); rfl; rfl
      apply OL.nil
      exact At.beside x (by repeat (first | exact Sub.nil | apply Sub.cons rfl | refine Sub.cons_eq rfl (by simp only [v5, v4, v22, cond_true, cond_false]) ?_)) (fun w' hw' => by first | exact hw' | (simp only [v5, v4, v22, cond_true, cond_false]; exact hw'))
    · cases ho
      have v6 : Eng.upd e 6 6 = true := upd_eq
      simp only [hei, cond_true, cond_false]
      apply omv; rfl; rfl
      apply OL.nil
      exact At.beside x (by repeat (first | exact Sub.nil | apply Sub.cons rfl | refine Sub.cons_eq rfl (by simp only [v6, cond_true, cond_false]) ?_)) (fun w' hw' => by first | exact hw' | (simp only [v6, cond_true, cond_false]; exact hw'))
    · cases ho
      have h6 : e 6 = true := hd ⟨6, .data⟩ (by simp) rfl
      have v7 : Eng.upd e 7 7 = true := upd_eq
      have v6 : Eng.upd e 7 6 = true := upd_mono h6
      simp only [hei, h6, cond_true, cond_false]
      apply OL.op; exact Guard.none; rfl; rfl; apply Pev.nil_ptr; rfl; exact yes
      apply OL.nil
      exact At.beside x (by repeat (first | exact Sub.nil | apply Sub.cons rfl | refine Sub.cons_eq rfl (by simp only [v7, v6, cond_true, cond_false]) ?_)) (fun w' hw' => by first | exact hw' | (simp only [v7, v6, cond_true, cond_false]; exact hw'))
    · cases ho
      have h7 : e 7 = true := hd ⟨7, .data⟩ (by simp) rfl
      have v8 : Eng.upd e 8 8 = true := upd_eq
      have v7 : Eng.upd e 8 7 = true := upd_mono h7
      simp only [hei, h7, cond_true, cond_false]
      apply ofa; rfl; rfl; rfl
      apply OL.nil
      exact At.beside x (by repeat (first | exact Sub.nil | apply Sub.cons rfl | refine Sub.cons_eq rfl (by simp only [v8, v7, cond_true, cond_false]) ?_)) (fun w' hw' => by first | exact hw' | (simp only [v8, v7, cond_true, cond_false]; exact hw'))
    · cases ho
      have h8 : e 8 = true := hd ⟨8, .data⟩ (by simp) rfl
      have h22 : e 22 = false := hcl.not (i := 9) (j := 22) rfl hei (by kernel_rfl)
      have v9 : Eng.upd e 9 9 = true := upd_eq
      have v8 : Eng.upd e 9 8 = true := upd_mono h8
      have v22 : Eng.upd e 9 22 = false := h22
      simp only [hei, h8, h22, cond_true, cond_false]
      apply old; rfl; rfl; exact .tail _ (.tail _ (.head _)); rfl; rfl
      apply OL.nil
      exact At.beside x (by repeat (first | exact Sub.nil | apply Sub.cons rfl | refine Sub.cons_eq rfl (by simp only [v9, v8, v22, cond_true, cond_false]) ?_)) (fun w' hw' => by first | exact hw' | (simp only [v9, v8, v22, cond_true, cond_false]; exact hw'))
    · cases ho
      have h9 : e 9 = true := hd ⟨9, .data⟩ (by simp) rfl
      have v10 : Eng.upd e 10 10 = true := upd_eq
      have v9 : Eng.upd e 10 9 = true := upd_mono h9
      simp only [hei, h9, cond_true, cond_false]
      apply OL.op; exact Guard.none; rfl; rfl; apply Pev.len_slice; rfl; exact yes; rfl
      apply OL.nil
      exact At.beside x (by repeat (first | exact Sub.nil | apply Sub.cons rfl | refine Sub.cons_eq rfl (by simp only [v10, v9, cond_true, cond_false]) ?_)) (fun w' hw' => by first | exact hw' | (simp only [v10, v9, cond_true, cond_false]; exact hw'))
    · cases ho
      have h10 : e 10 = true := hd ⟨10, .data⟩ (by simp) rfl
      have v11 : Eng.upd e 11 11 = true := upd_eq
      have v10 : Eng.upd e 11 10 = true := upd_mono h10
      simp only [hei, h10, cond_true, cond_false]
      apply OL.buildSlice; rfl; rfl; rfl; apply Elems.cons rfl; exact CellsL.one rfl; rfl; apply Elems.nil; apply App.cons; apply App.nil; rfl; rfl; intro bk hbk
      apply OL.nil
      exact At.beside { x with b1 := bk, hb1 := hbk } (by repeat (first | exact Sub.nil | apply Sub.cons rfl | refine Sub.cons_eq rfl (by simp only [v11, v10, cond_true, cond_false]) ?_)) (fun w' hw' => by simp only [v11, v10, cond_true, cond_false]; exact Cls.fill (p := 3) (H := _ :: _ :: _ :: _ :: _ :: H) (.s (.s (.s .z))) hw')
    · cases ho
      have h5 : e 5 = true := hd ⟨5, .data⟩ (by simp) rfl
      have h11 : e 11 = true := hd ⟨11, .data⟩ (by simp) rfl
      have h22 : e 22 = false := hcl.not (i := 12) (j := 22) rfl hei (by kernel_rfl)
      have v12 : Eng.upd e 12 12 = true := upd_eq
      have v5 : Eng.upd e 12 5 = true := upd_mono h5
      have v11 : Eng.upd e 12 11 = true := upd_mono h11
      have v22 : Eng.upd e 12 22 = false := h22
      simp only [hei, h5, h11, h22, cond_true, cond_false]
      apply OL.append
      rfl
      rfl
      rfl
      rfl
      apply Hole.z
      (repeat (first | exact List.Mem.head _ | apply List.Mem.tail))
      (repeat (first | apply Take.zero | apply Take.succ))
      rfl
      rfl
      exact hbS
      omega
      intro O1 g1 cap1
      apply OL.nil
      exact At.beside { x with g1 := g1, c1 := cap1, O1 := O1 } (by repeat (first | exact Sub.nil | apply Sub.cons rfl | refine Sub.cons_eq rfl (by simp only [v12, v5, v11, v22, cond_true, cond_false]) ?_)) (fun w' hw' => by first | exact hw' | (simp only [v12, v5, v11, v22, cond_true, cond_false]; exact hw'))
    · cases ho
      have v13 : Eng.upd e 13 13 = true := upd_eq
      simp only [hei, cond_true, cond_false]
      apply omv; rfl; rfl
      apply OL.nil
      exact At.beside x (by repeat (first | exact Sub.nil | apply Sub.cons rfl | refine Sub.cons_eq rfl (by simp only [v13, cond_true, cond_false]) ?_)) (fun w' hw' => by first | exact hw' | (simp only [v13, cond_true, cond_false]; exact hw'))
    · cases ho
      have h13 : e 13 = true := hd ⟨13, .data⟩ (by simp) rfl
      have v14 : Eng.upd e 14 14 = true := upd_eq
      have v13 : Eng.upd e 14 13 = true := upd_mono h13
      simp only [hei, h13, cond_true, cond_false]
      apply OL.op; exact Guard.none; rfl; rfl; apply Pev.nil_ptr; rfl; exact yes
      apply OL.nil
      exact At.beside x (by repeat (first | exact Sub.nil | apply Sub.cons rfl | refine Sub.cons_eq rfl (by simp only [v14, v13, cond_true, cond_false]) ?_)) (fun w' hw' => by first | exact hw' | (simp only [v14, v13, cond_true, cond_false]; exact hw'))
    · cases ho
      have h14 : e 14 = true := hd ⟨14, .data⟩ (by simp) rfl
      have v15 : Eng.upd e 15 15 = true := upd_eq
      have v14 : Eng.upd e 15 14 = true := upd_mono h14
      simp only [hei, h14, cond_true, cond_false]
      apply ofa; rfl; rfl; rfl
      apply OL.nil
      exact At.beside x (by repeat (first | exact Sub.nil | apply Sub.cons rfl | refine Sub.cons_eq rfl (by simp only [v15, v14, cond_true, cond_false]) ?_)) (fun w' hw' => by first | exact hw' | (simp only [v15, v14, cond_true, cond_false]; exact hw'))
    · cases ho
      have h15 : e 15 = true := hd ⟨15, .data⟩ (by simp) rfl
      have h25 : e 25 = false := hcl.not (i := 16) (j := 25) rfl hei (by kernel_rfl)
      have v16 : Eng.upd e 16 16 = true := upd_eq
      have v15 : Eng.upd e 16 15 = true := upd_mono h15
      have v25 : Eng.upd e 16 25 = false := h25
      simp only [hei, h15, h25, cond_true, cond_false]
      apply old; rfl; rfl; exact .tail _ (.tail _ (.head _)); rfl; rfl
      apply OL.nil
      exact At.beside x (by repeat (first | exact Sub.nil | apply Sub.cons rfl | refine Sub.cons_eq rfl (by simp only [v16, v15, v25, cond_true, cond_false]) ?_)) (fun w' hw' => by first | exact hw' | (simp only [v16, v15, v25, cond_true, cond_false]; exact hw'))
    · cases ho
      have v17 : Eng.upd e 17 17 = true := upd_eq
      simp only [hei, cond_true, cond_false]
      apply omv; rfl; rfl
      apply OL.nil
      exact At.beside x (by repeat (first | exact Sub.nil | apply Sub.cons rfl | refine Sub.cons_eq rfl (by simp only [v17, cond_true, cond_false]) ?_)) (fun w' hw' => by first | exact hw' | (simp only [v17, cond_true, cond_false]; exact hw'))
    · cases ho
      have h17 : e 17 = true := hd ⟨17, .data⟩ (by simp) rfl
      have v18 : Eng.upd e 18 18 = true := upd_eq
      have v17 : Eng.upd e 18 17 = true := upd_mono h17
      simp only [hei, h17, cond_true, cond_false]
      apply OL.buildSlice; rfl; rfl; rfl; apply Elems.cons rfl; exact CellsL.one rfl; rfl; apply Elems.nil; apply App.cons; apply App.nil; rfl; rfl; intro bk hbk
      apply OL.nil
      exact At.beside { x with b2 := bk, hb2 := hbk } (by repeat (first | exact Sub.nil | apply Sub.cons rfl | refine Sub.cons_eq rfl (by simp only [v18, v17, cond_true, cond_false]) ?_)) (fun w' hw' => by simp only [v18, v17, cond_true, cond_false]; exact Cls.fill (p := 4) (H := _ :: _ :: _ :: _ :: _ :: H) (.s (.s (.s (.s .z)))) hw')
    · cases ho
      have h16 : e 16 = true := hd ⟨16, .data⟩ (by simp) rfl
      have h18 : e 18 = true := hd ⟨18, .data⟩ (by simp) rfl
      have h25 : e 25 = false := hcl.not (i := 19) (j := 25) rfl hei (by kernel_rfl)
      have v19 : Eng.upd e 19 19 = true := upd_eq
      have v16 : Eng.upd e 19 16 = true := upd_mono h16
      have v18 : Eng.upd e 19 18 = true := upd_mono h18
      have v25 : Eng.upd e 19 25 = false := h25
      simp only [hei, h16, h18, h25, cond_true, cond_false]
      apply OL.append
      rfl
      rfl
      rfl
      rfl
      apply Hole.s
      apply Hole.z
      (repeat (first | exact List.Mem.head _ | apply List.Mem.tail))
      (repeat (first | apply Take.zero | apply Take.succ))
      rfl
      rfl
      exact hbS
      omega
      intro O1 g1 cap1
      apply OL.nil
      exact At.beside { x with g2 := g1, c2 := cap1, O2 := O1 } (by repeat (first | exact Sub.nil | apply Sub.cons rfl | refine Sub.cons_eq rfl (by simp only [v19, v16, v18, v25, cond_true, cond_false]) ?_)) (fun w' hw' => by first | exact hw' | (simp only [v19, v16, v18, v25, cond_true, cond_false]; exact hw'))
    · cases ho
      have h0 : e 0 = true := hd ⟨0, .data⟩ (by simp) rfl
      have v20 : Eng.upd e 20 20 = true := upd_eq
      have v0 : Eng.upd e 20 0 = true := upd_mono h0
      simp only [hei, h0, cond_true, cond_false]
      apply OL.op; exact Guard.none; rfl; rfl; apply Pev.nil_ptr; rfl; exact yes
      apply OL.nil
      exact At.beside x (by repeat (first | exact Sub.nil | apply Sub.cons rfl | refine Sub.cons_eq rfl (by simp only [v20, v0, cond_true, cond_false]) ?_)) (fun w' hw' => by first | exact hw' | (simp only [v20, v0, cond_true, cond_false]; exact hw'))
    · cases ho
      have h20 : e 20 = true := hd ⟨20, .data⟩ (by simp) rfl
      have v21 : Eng.upd e 21 21 = true := upd_eq
      have v20 : Eng.upd e 21 20 = true := upd_mono h20
      simp only [hei, h20, cond_true, cond_false]
      apply ofa; rfl; rfl; rfl
      apply OL.nil
      exact At.beside x (by repeat (first | exact Sub.nil | apply Sub.cons rfl | refine Sub.cons_eq rfl (by simp only [v21, v20, cond_true, cond_false]) ?_)) (fun w' hw' => by first | exact hw' | (simp only [v21, v20, cond_true, cond_false]; exact hw'))
    · cases ho
      have h12 : e 12 = true := hd ⟨12, .data⟩ (by simp) rfl
      have h21 : e 21 = true := hd ⟨21, .data⟩ (by simp) rfl
      have v22 : Eng.upd e 22 22 = true := upd_eq
      have v12 : Eng.upd e 22 12 = true := upd_mono h12
      have v21 : Eng.upd e 22 21 = true := upd_mono h21
      simp only [hei, h12, h21, cond_true, cond_false]
      apply OL.storeB; rfl; rfl; exact CellsL.one rfl; rfl; rfl; rfl; apply Swap.s; apply Swap.s; apply Swap.z; apply Put.skip; apply Put.skip; apply Put.skip; apply Put.here; apply Over.cons; apply Over.nil
      apply OL.nil
      exact At.beside x (by repeat (first | exact Sub.nil | apply Sub.cons rfl | refine Sub.cons_eq rfl (by simp only [v22, v12, v21, cond_true, cond_false]) ?_)) (fun w' hw' => by first | exact hw' | (simp only [v22, v12, v21, cond_true, cond_false]; exact hw'))
    · cases ho
      have h1 : e 1 = true := hd ⟨1, .data⟩ (by simp) rfl
      have v23 : Eng.upd e 23 23 = true := upd_eq
      have v1 : Eng.upd e 23 1 = true := upd_mono h1
      simp only [hei, h1, cond_true, cond_false]
      apply OL.op; exact Guard.none; rfl; rfl; apply Pev.nil_ptr; rfl; exact yes
      apply OL.nil
      exact At.beside x (by repeat (first | exact Sub.nil | apply Sub.cons rfl | refine Sub.cons_eq rfl (by simp only [v23, v1, cond_true, cond_false]) ?_)) (fun w' hw' => by first | exact hw' | (simp only [v23, v1, cond_true, cond_false]; exact hw'))
    · cases ho
      have h23 : e 23 = true := hd ⟨23, .data⟩ (by simp) rfl
      have v24 : Eng.upd e 24 24 = true := upd_eq
      have v23 : Eng.upd e 24 23 = true := upd_mono h23
      simp only [hei, h23, cond_true, cond_false]
      apply ofa; rfl; rfl; rfl
      apply OL.nil
      exact At.beside x (by repeat (first | exact Sub.nil | apply Sub.cons rfl | refine Sub.cons_eq rfl (by simp only [v24, v23, cond_true, cond_false]) ?_)) (fun w' hw' => by first | exact hw' | (simp only [v24, v23, cond_true, cond_false]; exact hw'))
    · cases ho
      have h19 : e 19 = true := hd ⟨19, .data⟩ (by simp) rfl
      have h24 : e 24 = true := hd ⟨24, .data⟩ (by simp) rfl
      have v25 : Eng.upd e 25 25 = true := upd_eq
      have v19 : Eng.upd e 25 19 = true := upd_mono h19
      have v24 : Eng.upd e 25 24 = true := upd_mono h24
      simp only [hei, h19, h24, cond_true, cond_false]
      apply OL.storeB; rfl; rfl; exact CellsL.one rfl; rfl; rfl; rfl; apply Swap.s; apply Swap.s; apply Swap.z; apply Put.skip; apply Put.skip; apply Put.skip; apply Put.skip; apply Put.here; apply Over.cons; apply Over.nil
      apply OL.nil
      exact At.beside x (by repeat (first | exact Sub.nil | apply Sub.cons rfl | refine Sub.cons_eq rfl (by simp only [v25, v19, v24, cond_true, cond_false]) ?_)) (fun w' hw' => by first | exact hw' | (simp only [v25, v19, v24, cond_true, cond_false]; exact hw'))
  · intro x e hall
    have hx1 := x.hb1
    have hx2 := x.hb2
    simp only [hall 0 (by decide), hall 1 (by decide), hall 2 (by decide), hall 3 (by decide), hall 4 (by decide), hall 5 (by decide), hall 6 (by decide), hall 7 (by decide), hall 8 (by decide), hall 9 (by decide), hall 10 (by decide), hall 11 (by decide), hall 12 (by decide), hall 13 (by decide), hall 14 (by decide), hall 15 (by decide), hall 16 (by decide), hall 17 (by decide), hall 18 (by decide), hall 19 (by decide), hall 20 (by decide), hall 21 (by decide), hall 22 (by decide), hall 23 (by decide), hall 24 (by decide), hall 25 (by decide), cond_true, cond_false]
    rw [snoc_n, snoc_i]
    with_reducible apply At.next
    apply W.seq
    apply W.reg
    apply omv; rfl; rfl
    apply OL.op; exact Guard.none; rfl; rfl; apply Pev.nil_ptr; rfl; exact yes
    apply ofa; rfl; rfl; rfl
    apply old; rfl; rfl; exact .tail _ (.tail _ (.head _)); rfl; rfl
    apply OL.op; exact Guard.none; rfl; rfl; apply Pev.len_slice; rfl; exact yes; rfl
    apply obn; rfl; rfl; rfl; apply Bin.sub_in; omega
    apply oas; rfl; rfl
    apply OL.nil
    with_reducible apply At.next
    apply W.ret
    have e2 : (((n + 1 : Nat) : Int)) - 1 = (n : Int) := by omega
    ((with_reducible apply At.fin1); rfl; rfl; intro w' hw')
    rw [e2]
    exact ⟨⟨B, bs, k1, k2, k3, x.O1, some ⟨x.g1, 0, none⟩, x.c1, x.O2, some ⟨x.g2, 0, none⟩, x.c2⟩, rfl, ⟨rfl, rfl, rfl, rfl, rfl⟩, hw'.thin (.keep (.keep (.keep (.blk x.hb1 (.blk x.hb2 Thin.same)))))⟩
/-- the first slots -/
def solN (i : Nat) : Sol := ⟨List.range i, (List.range i).map fun (x : Nat) => (x : Int)⟩
theorem solN_succ (i : Nat) : (⟨(solN i).up ++ [i], (solN i).kind ++ [(i : Int)]⟩ : Sol) = solN (i + 1) := by simp [solN, List.range_succ]
structure At3 (L : Loc) (B : Nat) (bs : Nat) (k1 k2 k3 : Value) : Prop where
  b : L.B = B
  s : L.bs = bs
  h1 : L.k1 = k1
  h2 : L.k2 = k2
  h3 : L.k3 = k3
theorem started_calls (B : Nat) (qk qd : Option Addr) (nk ck nd cd : Nat) (H : List Eng.Item) (S : List World) (w : World) (hbS : ∃ s ∈ S, B ≤ s.heap.size) (hc : Cls H S w) :
    Calls Tryd.prog 20 #[.slice qk nk ck, .slice qd nd cd] w fun e w' => ∃ (L : Loc) (bs : Nat), e = .returned (.pointer (some ⟨bs, 0, none⟩)) ∧ At3 L B bs (.slice qk nk ck) (.slice qd nd cd) (.slice none 0 0) ∧ B ≤ bs ∧ Cls (L.items 3 (solN 3) H) S w' := by
  refine enter Tryd.func20 rfl Tryd.ntmps20 rfl hc ?_
  (simp only [argEnv, Nat.zero_add, Nat.reduceAdd])
  apply W.seq
  apply W.reg
  apply oas; rfl; rfl
  apply OL.nil
  with_reducible apply At.next
  apply W.seq
  apply W.reg
  apply omv; rfl; rfl
  apply omv; rfl; rfl
  apply OL.op; exact Guard.none; rfl; rfl; apply Pev.build; rfl; exact CellsL.agg; rfl; apply Fill.cons rfl; exact CellsL.one rfl; rfl; rfl; apply Put.here; apply Over.cons; apply Over.nil; apply Fill.cons rfl; exact CellsL.one rfl; rfl; rfl; apply Put.skip; apply Put.here; apply Over.cons; apply Over.nil; apply Fill.nil; rfl
  apply OL.box; rfl; rfl; exact CellsL.agg; intro bk hbk
  apply oas; rfl; rfl
  apply OL.nil
  with_reducible apply At.next
  apply W.seq
  apply W.seq
  apply W.reg
  apply oas; rfl; rfl
  apply OL.nil
  with_reducible apply At.next
  apply W.block
  have hBb : B ≤ bk := by
    obtain ⟨s, hs, hb⟩ := hbS
    exact Nat.le_trans hb (hbk.mem s hs)
  refine W.loop (G := Nat × Loc) (fun g => g.1 ≤ 3 ∧ At3 g.2 B bk (.slice qk nk ck) (.slice qd nd cd) (.slice none 0 0)) (fun g => 3 - g.1)
    (fun g => [(5, true, .pointer (some ⟨bk, 0, none⟩)), (6, true, .int .i64 (g.1 : Int))])
    (fun g => Cls (g.2.items g.1 (solN g.1) H) S) (0, ⟨B, bk, .slice qk nk ck, .slice qd nd cd, .slice none 0 0, fun _ => False, none, 0, fun _ => False, none, 0⟩) ⟨by simp, rfl, rfl, rfl, rfl, rfl⟩ (by (repeat (first | exact Sub.nil | apply Sub.cons rfl | (refine Sub.cons_eq rfl (congrArg (Value.int .i64) (by first | omega | (simp only; omega))) ?_)))) (fun w' hw' => (hw'.row_nil _ _ _).row_nil _ _ _) ?_
  rintro ⟨i, L⟩ ⟨hi, hL⟩
  simp only at hi hL ⊢
  have hLb := hL.b
  have hLs := hL.s
  apply W.seq
  apply W.seq
  apply W.reg
  apply omv; rfl; rfl
  apply obn; rfl; rfl; rfl; apply Bin.leq
  apply OL.nil
  with_reducible apply At.next
  (refine W.cond rfl (fun hlt => ?_) (fun hlt => ?_)) <;> (try (simp only [Bool.and_eq_true, Bool.or_eq_true, Bool.not_eq_true', Bool.and_eq_false_iff, Bool.or_eq_false_iff, Bool.not_eq_false', decide_eq_true_eq, decide_eq_false_iff_not, Int.not_lt, Int.not_le] at hlt)) <;> (try (exfalso; first | omega | exact hlt trivial | contradiction))
  · apply W.skip
    with_reducible apply At.next
    apply W.seq
    apply W.block
    apply W.reg
    apply omv; rfl; rfl
    apply omv; rfl; rfl
    refine OL.callE (α := Loc) (fun _ => .int .i64 (i : Int)) (fun L' => At3 L' B bk (.slice qk nk ck) (.slice qd nd cd) (.slice none 0 0)) (fun L' => Cls (L'.items (i + 1) (solN (i + 1)) H) S) rfl rfl (by (repeat (first | exact Args.nil | (apply Args.cons rfl; ((first | exact fun _ => rfl | exact fun h => h | (intro h; simp_all; done))))))) (fun w2 hw2 => ?_) ?_
    · have h := slot_calls L i (solN i) (i : Int) H S w2 (by simp [solN]) (by simp [solN]) (by omega) (by rw [hLb]; exact hbS) (by rw [hLb, hLs]; exact hBb) hw2
      rw [hLs, solN_succ] at h
      exact h.mono fun e w3 ⟨L', he, ⟨h1, h2, h3, h4, h5⟩, hcl⟩ => ⟨L', he, ⟨h1.trans hLb, h2, h3.trans hL.h1, h4.trans hL.h2, h5.trans hL.h3⟩, hcl⟩
    intro L' hL'
    apply OL.nil
    with_reducible apply At.in_normal
    with_reducible apply At.next
    apply W.reg
    apply omv; rfl; rfl
    apply obn; rfl; rfl; rfl; apply Bin.add_in; omega
    apply oas; rfl; rfl
    apply OL.nil
    exact At.again (i + 1, L') ⟨by simp only; omega, hL'⟩ (by simp only; omega) (by (repeat (first | exact Sub.nil | apply Sub.cons rfl | (refine Sub.cons_eq rfl (congrArg (Value.int .i64) (by first | omega | (simp only; omega))) ?_)))) (fun w' hw' => hw')
  · obtain rfl : i = 3 := by omega
    apply W.exit
    with_reducible apply At.then_exit
    with_reducible apply At.then_exit
    with_reducible apply At.in_exit
    with_reducible apply At.next
    apply W.seq
    apply W.reg
    apply omv; rfl; rfl
    apply oas; rfl; rfl
    apply OL.nil
    with_reducible apply At.next
    apply W.ret
    ((with_reducible apply At.fin1); rfl; rfl; intro w' hw')
    exact ⟨L, bk, rfl, hL, hBb, hw'⟩
end Go.Proofs.YtaponemcbnnebaaDoor.ki
