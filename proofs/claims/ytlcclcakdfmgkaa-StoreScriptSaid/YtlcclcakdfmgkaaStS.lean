/- The walks of the reference's Get, Drop and Put. Conditions: none. -/
import Derived.Test.YtlcclcakdfmgkaaStR
import Derived.Test.YtlcclcakdfmgkaaRrw
namespace Go.Proofs.Ytlcclcakdfmgkaa.st
open Go.RowKit Go.Eng Go.St
set_option linter.unusedVariables false
set_option linter.unusedSimpArgs false
set_option maxRecDepth 100000

theorem Cls.plus {H : List Eng.Item} {S : List World} {w2 w3 : World} {i : Eng.Item} (h : Cls H S w2) (hc : Cls [i] [w2] w3) (ho : ∀ k, i.own k → w2.heap.size ≤ k) : Cls (i :: H) S w3 :=
  h.add (hc.toExt (.head _) (fun k hk => NotOwned.any (fun hm => by have := ho k hm; omega) .nil)) i (hc.holds _ (.head _)) (fun k hk => ⟨ho k hk, hc.lt _ (.head _) k hk⟩)
def rget (R : PR) (k : BA) : PR × BA × Int := match findK R k with
  | none => (R, ⟨#[]⟩, 12)
  | some v => ((k, v) :: delK R k, v, 0)
structure XG (B : Nat) where
  b3 : Nat
  hb3 : B ≤ b3
  y7 : RQ
  B7 : Nat
  hB7 : B ≤ B7
  O8 : Nat → Prop
  g8 : Nat
  c8 : Nat
  old : Nat → Value

theorem RGet_calls (room : Int) (q : Option Addr) (cap : Nat) (R : PR) (k : BA) (w : World) (hR : R.length ≤ 16777217) (h : SlAt w w.heap.size q (cat pc R)) :
    Calls Try.prog 10 #[.agg #[.int .i64 room, .slice q R.length cap], .string k] w fun e w' => ∃ y : RQ, e = .returned (.tuple #[.agg #[.int .i64 room, .slice y.q (rget R k).1.length y.c], .string (rget R k).2.1, .int .i64 (rget R k).2.2]) ∧
      ((y.q = q ∧ y.c = cap ∧ (rget R k).1 = R ∧ Ext w w') ∨ Cls [row w.heap.size y.O y.q (rget R k).1.length y.c 45 2 (cat pc (rget R k).1)] [w] w') := by
  refine enter Try.func10 rfl Try.ntmps10 rfl (Cls.start w) ?_
  (simp only [argEnv, Nat.zero_add, Nat.reduceAdd])
  apply W.seq
  apply W.reg
  apply OL.box; rfl; rfl; exact CellsL.agg; (intro bk hbk; simp only [AllLe, and_true] at hbk)
  apply OL.alloc; rfl; rfl; exact CellsL.agg; (intro bk hbk; simp only [AllLe, and_true] at hbk)
  apply oas; rfl; rfl
  apply oas; rfl; rfl
  apply OL.nil
  with_reducible apply At.next
  apply W.seq
  apply W.seq
  apply W.reg
  apply ofa; rfl; rfl; rfl
  apply old; rfl; rfl; exact .tail _ (.head _); rfl; rfl
  apply OL.op; exact Guard.none; rfl; rfl; apply Pev.len_slice; rfl; exact yes; rfl
  apply omv; rfl; rfl
  apply OL.nil
  with_reducible apply At.next
  apply W.block
  rename_i b2 hb2
  revert bk
  intro b4 hb4
  refine W.loop (G := Nat) (fun i => i ≤ R.length ∧ findK (R.drop i) k = findK R k) (fun i => R.length - i)
    (fun i => [(1, true, .string k), (2, true, .pointer (some ⟨b2, 0, none⟩)), (4, true, .pointer (some ⟨b4, 0, none⟩)), (5, true, .string ⟨#[]⟩), (10, true, .slice q R.length cap), (11, true, .int .i64 (R.length : Int)), (12, true, .int .i64 (i : Int))])
    (fun i => Cls [blk b4 31 [.int .i64 0, .slice none 0 0], blk b2 31 [.int .i64 room, .slice q R.length cap]] [w]) 0 ⟨Nat.zero_le _, rfl⟩ (by (repeat (first | exact Sub.nil | apply Sub.cons rfl))) (fun w' hw' => hw') ?_
  rintro i ⟨hi, hrest⟩
  apply W.seq
  apply W.reg
  apply obn; rfl; rfl; rfl; apply Bin.lss
  apply OL.nil
  with_reducible apply At.next
  apply W.seq
  (refine W.cond rfl (fun hlt => ?_) (fun hlt => ?_)) <;> (try (simp only [Bool.and_eq_true, Bool.or_eq_true, Bool.not_eq_true', Bool.and_eq_false_iff, Bool.or_eq_false_iff, Bool.not_eq_false', decide_eq_true_eq, decide_eq_false_iff_not, Int.not_lt, Int.not_le] at hlt)) <;> (try (exfalso; first | omega | exact hlt trivial | contradiction))
  · have hil : i < R.length := by omega
    obtain ⟨a, p, rfl, hab, hp, hcell⟩ := h.elem plen (by decide) hil
    obtain ⟨p1, p2⟩ := p
    change CellsAt w _ [.string p1, .string p2] at hcell
    have hd : R.drop i = (p1, p2) :: R.drop (i + 1) := by
      rw [List.drop_eq_getElem_cons hil]
      rw [List.getElem?_eq_getElem hil] at hp
      rw [Option.some.inj hp]
    rw [hd, findK] at hrest
    apply W.skip
    with_reducible apply At.next
    apply W.seq
    apply W.block
    apply W.seq
    apply W.reg
    apply OL.op; exact Guard.none; rfl; rfl; apply Pev.idx; rfl; exact yes; rfl; exact yes; rfl; rfl; intro hcond; omega
    apply OL.op; exact Guard.none; rfl; rfl; apply Pev.load_keptA; rfl; exact yes; exact .head _; rfl; intro hcond; assumption; rfl; intro hcond; (rw [add_block]; assumption); intro hcond; simp only [add_block]; refine NotOwned.blk (by omega) ?_; refine NotOwned.blk (by omega) ?_; exact NotOwned.nil
    apply OL.alloc; rfl; rfl; exact CellsL.agg; (intro bk hbk; simp only [AllLe, and_true] at hbk)
    apply OL.storeB; rfl; rfl; exact CellsL.agg; rfl; rfl; rfl; apply Swap.z; apply Put.here; apply Over.cons; apply Over.cons; apply Over.nil
    apply OL.nil
    with_reducible apply At.next
    apply W.seq
    apply W.reg
    apply ofa; rfl; rfl; rfl
    apply old; rfl; rfl; exact .head _; rfl; rfl
    apply omv; rfl; rfl
    apply obn; rfl; rfl; rfl; apply Bin.str_eql
    apply OL.nil
    with_reducible apply At.next
    revert bk
    intro b8 hb8
    (refine W.cond rfl (fun heq => ?_) (fun heq => ?_)) <;> (try (simp only [Bool.and_eq_true, Bool.or_eq_true, Bool.not_eq_true', Bool.and_eq_false_iff, Bool.or_eq_false_iff, Bool.not_eq_false', decide_eq_true_eq, decide_eq_false_iff_not, Int.not_lt, Int.not_le] at heq)) <;> (try (exfalso; first | omega | exact heq trivial | contradiction))
    · subst heq
      rw [if_pos rfl] at hrest
      simp only at hrest
      have hg : rget R p1 = ((p1, p2) :: delK R p1, p2, 0) := by rw [rget, ← hrest]
      rw [hg]
      apply W.seq
      refine W.regany (X := XG w.heap.size) (fun x e => [(6, true, bif e 14 then .int .i64 0 else x.old 6), (5, true, bif e 13 then .string p2 else x.old 5), (31, true, bif e 11 then .string p2 else x.old 31), (30, true, bif e 10 then .pointer (some ⟨b8, 0 + 1, none⟩) else x.old 30), (29, true, bif e 9 then .agg #[.int .i64 room, .slice (some ⟨x.g8, 0, none⟩) (1 + (delK R p1).length) x.c8] else x.old 29), (28, true, bif e 8 then .slice (some ⟨x.g8, 0, none⟩) (1 + (delK R p1).length) x.c8 else x.old 28), (27, true, bif e 7 then .slice x.y7.q (delK R p1).length x.y7.c else x.old 27), (26, true, bif e 6 then .string p1 else x.old 26), (25, true, bif e 5 then .slice (some a) R.length cap else x.old 25), (24, true, bif e 4 then .pointer (some ⟨b2, 0 + 1, none⟩) else x.old 24), (23, true, bif e 3 then .slice (some ⟨x.b3, 0, none⟩) 1 1 else x.old 23), (22, true, bif e 2 then .agg #[.string p1, .string p2] else x.old 22), (21, true, bif e 1 then .int .i64 room else x.old 21), (20, true, bif e 0 then .pointer (some ⟨b2, 0 + 0, none⟩) else x.old 20), (8, true, .pointer (some ⟨b8, 0, none⟩)), (4, true, .pointer (some ⟨b4, 0, none⟩)), (2, true, .pointer (some ⟨b2, 0, none⟩)), (1, true, .string p1)])
        (fun x e => (bif e 8 then row w.heap.size x.O8 (some ⟨x.g8, 0, none⟩) (1 + (delK R p1).length) x.c8 45 2 ([.string p1, .string p2] ++ cat pc (delK R p1)) else (bif e 3 then row w.heap.size (fun k => k = x.b3) (some ⟨x.b3, 0, none⟩) 1 1 45 2 [.string p1, .string p2] else nothing)) :: (bif e 7 then row x.B7 x.y7.O x.y7.q (delK R p1).length x.y7.c 45 2 (cat pc (delK R p1)) else nothing) :: (blk b8 45 [.string p1, .string p2]) :: (blk b4 31 [.int .i64 (bif e 12 then room else 0), bif e 12 then .slice (some ⟨x.g8, 0, none⟩) (1 + (delK R p1).length) x.c8 else .slice none 0 0]) :: (blk b2 31 [.int .i64 room, .slice (some a) R.length cap]) :: [])
        (fun old => ⟨w.heap.size, Nat.le_refl _, ⟨none, 0, fun _ => False⟩, w.heap.size, Nat.le_refl _, fun _ => False, 0, 0, old⟩) (by kernel_rfl) (by kernel_rfl) (fun w hw => hw.drew) (fun old => by repeat (first | exact SubO.nil | apply SubO.cons rfl | refine SubO.old rfl ?_)) (fun old w' hw' => hw'.nothing_cons.nothing_cons) ?_ ?_
      · intro x e i o ho hei hd hcl
        have hi : i < 15 := (List.getElem?_eq_some_iff.1 ho).1
        obtain rfl | rfl | rfl | rfl | rfl | rfl | rfl | rfl | rfl | rfl | rfl | rfl | rfl | rfl | rfl : i = 0 ∨ i = 1 ∨ i = 2 ∨ i = 3 ∨ i = 4 ∨ i = 5 ∨ i = 6 ∨ i = 7 ∨ i = 8 ∨ i = 9 ∨ i = 10 ∨ i = 11 ∨ i = 12 ∨ i = 13 ∨ i = 14 := by omega
        · cases ho
          have v0 : Eng.upd e 0 0 = true := upd_eq
          simp only [hei, cond_true, cond_false]
          apply ofa; rfl; rfl; rfl
          apply OL.nil
          exact At.beside x (by repeat (first | exact Sub.nil | apply Sub.cons rfl | refine Sub.cons_eq rfl (by simp only [v0, cond_true, cond_false]) ?_)) (fun w' hw' => by first | exact hw' | (simp only [v0, cond_true, cond_false]; exact hw'))
        · cases ho
          have h0 : e 0 = true := hd ⟨0, .data⟩ (by simp) rfl
          have v1 : Eng.upd e 1 1 = true := upd_eq
          have v0 : Eng.upd e 1 0 = true := upd_mono h0
          simp only [hei, h0, cond_true, cond_false]
          apply old; rfl; rfl; apply List.Mem.tail; apply List.Mem.tail; exact .tail _ (.tail _ (.head _)); rfl; rfl
          apply OL.nil
          exact At.beside x (by repeat (first | exact Sub.nil | apply Sub.cons rfl | refine Sub.cons_eq rfl (by simp only [v1, v0, cond_true, cond_false]) ?_)) (fun w' hw' => by first | exact hw' | (simp only [v1, v0, cond_true, cond_false]; exact hw'))
        · cases ho
          have v2 : Eng.upd e 2 2 = true := upd_eq
          simp only [hei, cond_true, cond_false]
          apply OL.op; exact Guard.none; rfl; rfl; apply Pev.load_blkA; rfl; exact yes; exact .tail _ (.tail _ (.head _)); rfl; apply Take.succ; apply Take.succ; apply Take.zero
          apply OL.nil
          exact At.beside x (by repeat (first | exact Sub.nil | apply Sub.cons rfl | refine Sub.cons_eq rfl (by simp only [v2, cond_true, cond_false]) ?_)) (fun w' hw' => by first | exact hw' | (simp only [v2, cond_true, cond_false]; exact hw'))
        · cases ho
          have h2 : e 2 = true := hd ⟨2, .data⟩ (by simp) rfl
          have h8 : e 8 = false := hcl.not (i := 3) (j := 8) rfl hei (by kernel_rfl)
          have v3 : Eng.upd e 3 3 = true := upd_eq
          have v2 : Eng.upd e 3 2 = true := upd_mono h2
          have v8 : Eng.upd e 3 8 = false := h8
          simp only [hei, h2, h8, cond_true, cond_false]
          apply OL.buildSlice; rfl; rfl; rfl; apply Elems.cons rfl; exact CellsL.agg; rfl; apply Elems.nil; apply App.cons; apply App.cons; apply App.nil; rfl; rfl; (intro bk hbk; simp only [AllLe, and_true] at hbk)
          apply OL.nil
          refine At.cls (fun w' hw' => Cls.blk_row (base := w.heap.size) (m := 1) (sz := 2) hw' hbk rfl (by decide)) ?_
          exact At.beside { x with b3 := bk, hb3 := hbk } (by repeat (first | exact Sub.nil | apply Sub.cons rfl | refine Sub.cons_eq rfl (by simp only [v3, v2, v8, cond_true, cond_false]) ?_)) (fun w' hw' => by simp only [v3, v2, v8, cond_true, cond_false]; exact Cls.fill (p := 0) (H := _) .z hw')
        · cases ho
          have v4 : Eng.upd e 4 4 = true := upd_eq
          simp only [hei, cond_true, cond_false]
          apply ofa; rfl; rfl; rfl
          apply OL.nil
          exact At.beside x (by repeat (first | exact Sub.nil | apply Sub.cons rfl | refine Sub.cons_eq rfl (by simp only [v4, cond_true, cond_false]) ?_)) (fun w' hw' => by first | exact hw' | (simp only [v4, cond_true, cond_false]; exact hw'))
        · cases ho
          have h4 : e 4 = true := hd ⟨4, .data⟩ (by simp) rfl
          have v5 : Eng.upd e 5 5 = true := upd_eq
          have v4 : Eng.upd e 5 4 = true := upd_mono h4
          simp only [hei, h4, cond_true, cond_false]
          apply old; rfl; rfl; apply List.Mem.tail; apply List.Mem.tail; exact .tail _ (.tail _ (.head _)); rfl; rfl
          apply OL.nil
          exact At.beside x (by repeat (first | exact Sub.nil | apply Sub.cons rfl | refine Sub.cons_eq rfl (by simp only [v5, v4, cond_true, cond_false]) ?_)) (fun w' hw' => by first | exact hw' | (simp only [v5, v4, cond_true, cond_false]; exact hw'))
        · cases ho
          have v6 : Eng.upd e 6 6 = true := upd_eq
          simp only [hei, cond_true, cond_false]
          apply omv; rfl; rfl
          apply OL.nil
          exact At.beside x (by repeat (first | exact Sub.nil | apply Sub.cons rfl | refine Sub.cons_eq rfl (by simp only [v6, cond_true, cond_false]) ?_)) (fun w' hw' => by first | exact hw' | (simp only [v6, cond_true, cond_false]; exact hw'))
        · cases ho
          have h5 : e 5 = true := hd ⟨5, .data⟩ (by simp) rfl
          have h6 : e 6 = true := hd ⟨6, .data⟩ (by simp) rfl
          have v7 : Eng.upd e 7 7 = true := upd_eq
          have v5 : Eng.upd e 7 5 = true := upd_mono h5
          have v6 : Eng.upd e 7 6 = true := upd_mono h6
          simp only [hei, h5, h6, cond_true, cond_false]
          have hx3 := x.hb3
          have hx7 := x.hB7
          skip
          refine OL.callE (α := RQ × Nat) (fun y => .slice y.1.q (delK R p1).length y.1.c) (fun y => w.heap.size ≤ y.2) (fun y => Cls (row y.2 y.1.O y.1.q (delK R p1).length y.1.c 45 2 (cat pc (delK R p1)) :: (bif e 8 then row w.heap.size x.O8 (some ⟨x.g8, 0, none⟩) (1 + (delK R p1).length) x.c8 45 2 ([.string p1, .string p2] ++ cat pc (delK R p1)) else (bif e 3 then row w.heap.size (fun k => k = x.b3) (some ⟨x.b3, 0, none⟩) 1 1 45 2 [.string p1, .string p2] else nothing)) :: (nothing) :: (blk b8 45 [.string p1, .string p2]) :: (blk b4 31 [.int .i64 (bif e 12 then room else 0), bif e 12 then .slice (some ⟨x.g8, 0, none⟩) (1 + (delK R p1).length) x.c8 else .slice none 0 0]) :: (blk b2 31 [.int .i64 room, .slice (some a) R.length cap]) :: []) [w]) rfl rfl (by (repeat (first | exact Args.nil | (apply Args.cons rfl; ((first | exact fun _ => rfl | exact fun h => h | (intro h; simp_all; done))))))) (fun w2 hw2 => ?_) ?_
          · have h8 := hw2.below (s := w) (by (repeat (first | exact List.Mem.head _ | apply List.Mem.tail))) (Nat.le_refl _) (fun k hk => by (focus ((try simp only [add_block]); (repeat (first | exact NotOwned.nil | exact hno _ (by omega) | refine NotOwned.nothing ?_ | refine NotOwned.nds (hlow _ (by omega)) ?_ | refine NotOwned.mapS (by omega) ?_ | apply NotOwned.bif | refine NotOwned.blk (by omega) ?_ | refine NotOwned.row (by omega) ?_ | refine NotOwned.grid (by assumption) (by omega) ?_)); done)))
            have h9 := (hw2.kp w (by (repeat (first | exact List.Mem.head _ | apply List.Mem.tail)))).size
            exact (without_calls (some a) cap R p1 w2 hR (h.keep h8 h9)).mono fun e w3 ⟨y, he, hc⟩ => ⟨(y, w2.heap.size), he, h9, Cls.plus hw2 hc (fun k hk => hk.1)⟩
          rintro ⟨y, B9⟩ hB9
          simp only at hB9 ⊢
          apply OL.nil
          exact At.beside { x with y7 := y, B7 := B9, hB7 := hB9 } (by repeat (first | exact Sub.nil | apply Sub.cons rfl | refine Sub.cons_eq rfl (by simp only [v7, v5, v6, cond_true, cond_false]) ?_)) (fun w' hw' => by simp only [v7, v5, v6, cond_true, cond_false]; exact Cls.fill (p := 1) (H := _) (.s .z) hw')
        · cases ho
          have h3 : e 3 = true := hd ⟨3, .data⟩ (by simp) rfl
          have h7 : e 7 = true := hd ⟨7, .data⟩ (by simp) rfl
          have h9 : e 9 = false := hcl.not (i := 8) (j := 9) rfl hei (by kernel_rfl)
          have h12 : e 12 = false := hcl.not (i := 8) (j := 12) rfl hei (by kernel_rfl)
          have v8 : Eng.upd e 8 8 = true := upd_eq
          have v3 : Eng.upd e 8 3 = true := upd_mono h3
          have v7 : Eng.upd e 8 7 = true := upd_mono h7
          have v9 : Eng.upd e 8 9 = false := h9
          have v12 : Eng.upd e 8 12 = false := h12
          simp only [hei, h3, h7, h9, h12, cond_true, cond_false]
          apply OL.appendRR
          rfl
          rfl
          rfl
          rfl
          apply Hole.z
          exact .tail _ (.head _)
          exact cat_oneL (fun _ => rfl) _
          omega
          exact ⟨_, .head _, Nat.le_refl _⟩
          have hdl := delK_le R p1
          omega
          intro O1 g1 cap1
          apply OL.nil
          exact At.beside { x with O8 := O1, g8 := g1, c8 := cap1 } (by repeat (first | exact Sub.nil | apply Sub.cons rfl | refine Sub.cons_eq rfl (by simp only [v8, v3, v7, v9, v12, cond_true, cond_false]) ?_)) (fun w' hw' => by first | exact hw' | (simp only [v8, v3, v7, v9, v12, cond_true, cond_false]; exact hw'))
        · cases ho
          have h1 : e 1 = true := hd ⟨1, .data⟩ (by simp) rfl
          have h8 : e 8 = true := hd ⟨8, .data⟩ (by simp) rfl
          have v9 : Eng.upd e 9 9 = true := upd_eq
          have v1 : Eng.upd e 9 1 = true := upd_mono h1
          have v8 : Eng.upd e 9 8 = true := upd_mono h8
          simp only [hei, h1, h8, cond_true, cond_false]
          apply OL.op; exact Guard.none; rfl; rfl; apply Pev.build; rfl; exact CellsL.agg; rfl; apply Fill.cons rfl; exact CellsL.one rfl; rfl; rfl; apply Put.here; apply Over.cons; apply Over.nil; apply Fill.cons rfl; exact CellsL.one rfl; rfl; rfl; apply Put.skip; apply Put.here; apply Over.cons; apply Over.nil; apply Fill.nil; rfl
          apply OL.nil
          exact At.beside x (by repeat (first | exact Sub.nil | apply Sub.cons rfl | refine Sub.cons_eq rfl (by simp only [v9, v1, v8, cond_true, cond_false]) ?_)) (fun w' hw' => by first | exact hw' | (simp only [v9, v1, v8, cond_true, cond_false]; exact hw'))
        · cases ho
          have v10 : Eng.upd e 10 10 = true := upd_eq
          simp only [hei, cond_true, cond_false]
          apply ofa; rfl; rfl; rfl
          apply OL.nil
          exact At.beside x (by repeat (first | exact Sub.nil | apply Sub.cons rfl | refine Sub.cons_eq rfl (by simp only [v10, cond_true, cond_false]) ?_)) (fun w' hw' => by first | exact hw' | (simp only [v10, cond_true, cond_false]; exact hw'))
        · cases ho
          have h10 : e 10 = true := hd ⟨10, .data⟩ (by simp) rfl
          have v11 : Eng.upd e 11 11 = true := upd_eq
          have v10 : Eng.upd e 11 10 = true := upd_mono h10
          simp only [hei, h10, cond_true, cond_false]
          apply old; rfl; rfl; exact .tail _ (.tail _ (.head _)); rfl; rfl
          apply OL.nil
          exact At.beside x (by repeat (first | exact Sub.nil | apply Sub.cons rfl | refine Sub.cons_eq rfl (by simp only [v11, v10, cond_true, cond_false]) ?_)) (fun w' hw' => by first | exact hw' | (simp only [v11, v10, cond_true, cond_false]; exact hw'))
        · cases ho
          have h9 : e 9 = true := hd ⟨9, .data⟩ (by simp) rfl
          have h8 : e 8 = true := hd ⟨8, .chain⟩ (by simp) rfl
          have v12 : Eng.upd e 12 12 = true := upd_eq
          have v9 : Eng.upd e 12 9 = true := upd_mono h9
          have v8 : Eng.upd e 12 8 = true := upd_mono h8
          simp only [hei, h9, h8, cond_true, cond_false]
          apply OL.storeB; rfl; rfl; exact CellsL.agg; rfl; rfl; rfl; apply Swap.s; apply Swap.s; apply Swap.s; apply Swap.z; apply Put.here; apply Over.cons; apply Over.cons; apply Over.nil
          apply OL.nil
          exact At.beside x (by repeat (first | exact Sub.nil | apply Sub.cons rfl | refine Sub.cons_eq rfl (by simp only [v12, v9, v8, cond_true, cond_false]) ?_)) (fun w' hw' => by first | exact hw' | (simp only [v12, v9, v8, cond_true, cond_false]; exact hw'))
        · cases ho
          have h11 : e 11 = true := hd ⟨11, .data⟩ (by simp) rfl
          have v13 : Eng.upd e 13 13 = true := upd_eq
          have v11 : Eng.upd e 13 11 = true := upd_mono h11
          simp only [hei, h11, cond_true, cond_false]
          apply oas; rfl; rfl
          apply OL.nil
          exact At.beside x (by repeat (first | exact Sub.nil | apply Sub.cons rfl | refine Sub.cons_eq rfl (by simp only [v13, v11, cond_true, cond_false]) ?_)) (fun w' hw' => by first | exact hw' | (simp only [v13, v11, cond_true, cond_false]; exact hw'))
        · cases ho
          have v14 : Eng.upd e 14 14 = true := upd_eq
          simp only [hei, cond_true, cond_false]
          apply oas; rfl; rfl
          apply OL.nil
          exact At.beside x (by repeat (first | exact Sub.nil | apply Sub.cons rfl | refine Sub.cons_eq rfl (by simp only [v14, cond_true, cond_false]) ?_)) (fun w' hw' => by first | exact hw' | (simp only [v14, cond_true, cond_false]; exact hw'))
      · intro x e hall
        have hx3 := x.hb3
        have hx7 := x.hB7
        simp only [hall 0 (by decide), hall 1 (by decide), hall 2 (by decide), hall 3 (by decide), hall 4 (by decide), hall 5 (by decide), hall 6 (by decide), hall 7 (by decide), hall 8 (by decide), hall 9 (by decide), hall 10 (by decide), hall 11 (by decide), hall 12 (by decide), hall 13 (by decide), hall 14 (by decide), cond_true, cond_false]
        with_reducible apply At.next
        apply W.ret
        with_reducible apply At.in_ret
        with_reducible apply At.then_ret
        with_reducible apply At.then_ret
        with_reducible apply At.in_ret
        with_reducible apply At.then_ret
        refine At.finCTT rfl rfl (.tail _ (.tail _ (.tail _ (.head _)))) rfl rfl rfl rfl (fun w' hw' => ?_)
        refine ⟨⟨some ⟨x.g8, 0, none⟩, x.c8, x.O8⟩, ?_, .inr ?_⟩
        · simp only [List.length_cons]; rw [Nat.add_comm 1]
        · simp only [List.length_cons]; rw [Nat.add_comm _ 1]
          exact hw'.thin (Thin.keep (Thin.row ⟨hx7, trivial⟩ (Thin.blk ⟨hb8, trivial⟩ (Thin.blk ⟨hb4, trivial⟩ (Thin.blk ⟨hb2, trivial⟩ Thin.nil)))))
    · rw [if_neg heq] at hrest
      apply W.skip
      with_reducible apply At.in_normal
      with_reducible apply At.next
      apply W.reg
      apply obn; rfl; rfl; rfl; apply Bin.add_in; omega
      apply omv; rfl; rfl
      apply OL.nil
      exact At.again (i + 1) ⟨by omega, hrest⟩ (by omega) (by (repeat (first | exact Sub.nil | apply Sub.cons rfl))) (fun w' hw' => hw'.thin (by (repeat (first | exact Thin.nil | exact Thin.same | apply Thin.keep | (refine Thin.blk (by assumption) ?_) | (refine Thin.blk (by simp only [AllLe, and_true]; omega) ?_)))))
  · obtain rfl : i = R.length := by omega
    rw [List.drop_length] at hrest
    have hg : rget R k = (R, ⟨#[]⟩, 12) := by rw [rget, ← hrest]; rfl
    rw [hg]
    apply W.exit
    with_reducible apply At.then_exit
    with_reducible apply At.then_exit
    with_reducible apply At.in_exit
    with_reducible apply At.next
    apply W.seq
    apply W.reg
    apply OL.op; exact Guard.none; rfl; rfl; apply Pev.load_blkA; rfl; exact yes; exact .tail _ (.head _); rfl; apply Take.succ; apply Take.succ; apply Take.zero
    apply OL.storeB; rfl; rfl; exact CellsL.agg; rfl; rfl; rfl; apply Swap.z; apply Put.here; apply Over.cons; apply Over.cons; apply Over.nil
    apply oas; rfl; rfl
    apply oas; rfl; rfl
    apply OL.nil
    with_reducible apply At.next
    apply W.ret
    refine At.finCTT rfl rfl (.head _) rfl rfl rfl rfl (fun w' hw' => ?_)
    exact ⟨⟨q, cap, fun _ => False⟩, rfl, .inl ⟨rfl, rfl, rfl, by (exact hw'.toExt (by (repeat (first | exact List.Mem.head _ | apply List.Mem.tail))) (fun k hk => by (focus ((try simp only [add_block]); (repeat (first | exact NotOwned.nil | exact hno _ (by omega) | refine NotOwned.nothing ?_ | refine NotOwned.nds (hlow _ (by omega)) ?_ | refine NotOwned.mapS (by omega) ?_ | apply NotOwned.bif | refine NotOwned.blk (by omega) ?_ | refine NotOwned.row (by omega) ?_ | refine NotOwned.grid (by assumption) (by omega) ?_)); done))))⟩⟩
end Go.Proofs.Ytlcclcakdfmgkaa.st
