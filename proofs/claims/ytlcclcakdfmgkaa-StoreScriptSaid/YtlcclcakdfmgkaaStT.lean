/- The walks of the reference's Drop and Put. Conditions: none. -/
import Derived.Test.YtlcclcakdfmgkaaStS
namespace Go.Proofs.Ytlcclcakdfmgkaa.st
open Go.RowKit Go.Eng Go.St
set_option linter.unusedVariables false
set_option linter.unusedSimpArgs false
set_option maxRecDepth 100000

def rdrop (R : PR) (k : BA) : PR × Int := if (delK R k).length = R.length then (R, 12) else (delK R k, 0)
def rput (room : Nat) (R : PR) (k v : BA) : PR × List BA × Int :=
  if room < k.size + v.size then (R, [], 16) else ((k, v) :: (ev room (k.size + v.size) (delK R k).reverse).2.reverse, (ev room (k.size + v.size) (delK R k).reverse).1, 0)
theorem Cls.row_base {H : List Eng.Item} {S : List World} {w : World} {B B' m cap size : Nat} {O : Nat → Prop} {q : Option Addr} {e : TypeId} {xs : List Value} (h : Cls (row B O q m cap e size xs :: H) S w) (hB : B' ≤ B) : Cls (row B' (fun k => B ≤ k ∧ O k) q m cap e size xs :: H) S w := by
  have hd := List.pairwise_cons.1 h.dj
  refine ⟨fun i hi => ?_, fun i hi => ?_, .cons (fun j hj k hk => hd.1 j hj k hk.2) hd.2, fun s hs => (h.kp s hs).mono fun k _ ⟨j, hj, hjk⟩ => ?_⟩
  · cases hi with
    | head =>
      have h0 : (row B O q m cap e size xs).holds w := h.holds _ (.head _)
      refine ⟨fun a ha => ⟨?_, h0.1 a ha⟩, h0.2.1, ?_⟩
      · rcases h0.2.2 with ⟨h3, _⟩ | ⟨g, cap', cur, h3, hb, _⟩
        · rw [ha] at h3; cases h3
        · rw [ha] at h3
          simp only [Value.slice.injEq, Option.some.injEq] at h3
          rw [h3.1]; exact hb
      · rcases h0.2.2 with h3 | ⟨g, cap', cur, h3, hb, h4⟩
        · exact .inl h3
        · exact .inr ⟨g, cap', cur, h3, by omega, h4⟩
    | tail _ hi => exact h.holds _ (.tail _ hi)
  · cases hi with
    | head => exact fun k hk => h.lt (row B O q m cap e size xs) (.head _) k hk.2
    | tail _ hi => exact h.lt _ (.tail _ hi)
  · cases hj with
    | head =>
      have hjk' : B ≤ k ∧ O k := hjk
      exact ⟨_, .head _, by omega, hjk'⟩
    | tail _ hj => exact ⟨_, .tail _ hj, hjk⟩
structure XD (B : Nat) where
  b7 : Nat
  hb7 : B ≤ b7
  y5 : RQ
  B5 : Nat
  hB5 : B ≤ B5
  old : Nat → Value

theorem RDrop_calls (room : Int) (q : Option Addr) (cap : Nat) (R : PR) (k : BA) (w : World) (hR : R.length ≤ 16777217) (h : SlAt w w.heap.size q (cat pc R)) :
    Calls Try.prog 11 #[.agg #[.int .i64 room, .slice q R.length cap], .string k] w fun e w' => ∃ y : RQ, e = .returned (.tuple #[.agg #[.int .i64 room, .slice y.q (rdrop R k).1.length y.c], .int .i64 (rdrop R k).2]) ∧
      ((y.q = q ∧ y.c = cap ∧ (rdrop R k).1 = R ∧ Ext w w') ∨ Cls [row w.heap.size y.O y.q (rdrop R k).1.length y.c 45 2 (cat pc (rdrop R k).1)] [w] w') := by
  refine enter Try.func11 rfl Try.ntmps11 rfl (Cls.start w) ?_
  (simp only [argEnv, Nat.zero_add, Nat.reduceAdd])
  apply W.seq
  apply W.reg
  apply OL.box; rfl; rfl; exact CellsL.agg; (intro bk hbk; simp only [AllLe, and_true] at hbk)
  apply OL.alloc; rfl; rfl; exact CellsL.agg; (intro bk hbk; simp only [AllLe, and_true] at hbk)
  apply oas; rfl; rfl
  apply OL.nil
  with_reducible apply At.next
  apply W.seq
  rename_i b2 hb2
  revert bk
  intro b4 hb4
  refine W.regany (X := XD w.heap.size) (fun x e => [(6, true, bif e 7 then .pointer (some ⟨x.b7, 0, none⟩) else x.old 6), (13, true, bif e 6 then .agg #[.int .i64 room, .slice x.y5.q (delK R k).length x.y5.c] else x.old 13), (12, true, bif e 5 then .slice x.y5.q (delK R k).length x.y5.c else x.old 12), (11, true, bif e 4 then .string k else x.old 11), (10, true, bif e 3 then .slice q R.length cap else x.old 10), (9, true, bif e 2 then .pointer (some ⟨b2, 0 + 1, none⟩) else x.old 9), (8, true, bif e 1 then .int .i64 room else x.old 8), (7, true, bif e 0 then .pointer (some ⟨b2, 0 + 0, none⟩) else x.old 7), (5, true, .int .i64 0), (4, true, .pointer (some ⟨b4, 0, none⟩)), (2, true, .pointer (some ⟨b2, 0, none⟩)), (1, true, .string k)])
    (fun x e => (bif e 7 then blk x.b7 31 [(bif e 8 then .int .i64 room else .int .i64 0), (bif e 8 then .slice x.y5.q (delK R k).length x.y5.c else .slice none 0 0)] else nothing) :: (bif e 5 then row x.B5 x.y5.O x.y5.q (delK R k).length x.y5.c 45 2 (cat pc (delK R k)) else nothing) :: (blk b4 31 [.int .i64 0, .slice none 0 0]) :: (blk b2 31 [.int .i64 room, .slice q R.length cap]) :: [])
    (fun old => ⟨w.heap.size, Nat.le_refl _, ⟨none, 0, fun _ => False⟩, w.heap.size, Nat.le_refl _, old⟩) (by kernel_rfl) (by kernel_rfl) (fun w hw => hw.drew) (fun old => by repeat (first | exact SubO.nil | apply SubO.cons rfl | refine SubO.old rfl ?_)) (fun old w' hw' => hw'.nothing_cons.nothing_cons) ?_ ?_
  · intro x e i o ho hei hd hcl
    have hi : i < 9 := (List.getElem?_eq_some_iff.1 ho).1
    obtain rfl | rfl | rfl | rfl | rfl | rfl | rfl | rfl | rfl : i = 0 ∨ i = 1 ∨ i = 2 ∨ i = 3 ∨ i = 4 ∨ i = 5 ∨ i = 6 ∨ i = 7 ∨ i = 8 := by omega
    · cases ho
      have v0 : Eng.upd e 0 0 = true := upd_eq
      simp only [hei, cond_true, cond_false]
      apply ofa; rfl; rfl; rfl
      apply OL.nil
      exact At.beside x (by repeat (first | exact Sub.nil | apply Sub.cons rfl | refine Sub.cons_eq rfl (by simp only [v0, cond_true, cond_false]) ?_)) (fun w' hw' => by first | exact hw' | (simp only [v0, cond_true, cond_false]; exact hw'))
    · cases ho
      have h0 : e 0 = true := hd ⟨0, .data⟩ (by simp) rfl
      have v1 : Eng.upd e 1 1 = true := upd_eq
      have v0 : Eng.upd e 1 0 = true := upd_mono h0
      simp only [hei, h0, cond_true, cond_false]
      apply old; rfl; rfl; apply List.Mem.tail; exact .tail _ (.tail _ (.head _)); rfl; rfl
      apply OL.nil
      exact At.beside x (by repeat (first | exact Sub.nil | apply Sub.cons rfl | refine Sub.cons_eq rfl (by simp only [v1, v0, cond_true, cond_false]) ?_)) (fun w' hw' => by first | exact hw' | (simp only [v1, v0, cond_true, cond_false]; exact hw'))
    · cases ho
      have v2 : Eng.upd e 2 2 = true := upd_eq
      simp only [hei, cond_true, cond_false]
      apply ofa; rfl; rfl; rfl
      apply OL.nil
      exact At.beside x (by repeat (first | exact Sub.nil | apply Sub.cons rfl | refine Sub.cons_eq rfl (by simp only [v2, cond_true, cond_false]) ?_)) (fun w' hw' => by first | exact hw' | (simp only [v2, cond_true, cond_false]; exact hw'))
    · cases ho
      have h2 : e 2 = true := hd ⟨2, .data⟩ (by simp) rfl
      have v3 : Eng.upd e 3 3 = true := upd_eq
      have v2 : Eng.upd e 3 2 = true := upd_mono h2
      simp only [hei, h2, cond_true, cond_false]
      apply old; rfl; rfl; apply List.Mem.tail; exact .tail _ (.tail _ (.head _)); rfl; rfl
      apply OL.nil
      exact At.beside x (by repeat (first | exact Sub.nil | apply Sub.cons rfl | refine Sub.cons_eq rfl (by simp only [v3, v2, cond_true, cond_false]) ?_)) (fun w' hw' => by first | exact hw' | (simp only [v3, v2, cond_true, cond_false]; exact hw'))
    · cases ho
      have v4 : Eng.upd e 4 4 = true := upd_eq
      simp only [hei, cond_true, cond_false]
      apply omv; rfl; rfl
      apply OL.nil
      exact At.beside x (by repeat (first | exact Sub.nil | apply Sub.cons rfl | refine Sub.cons_eq rfl (by simp only [v4, cond_true, cond_false]) ?_)) (fun w' hw' => by first | exact hw' | (simp only [v4, cond_true, cond_false]; exact hw'))
    · cases ho
      have h3 : e 3 = true := hd ⟨3, .data⟩ (by simp) rfl
      have h4 : e 4 = true := hd ⟨4, .data⟩ (by simp) rfl
      have h6 : e 6 = false := hcl.not (i := 5) (j := 6) rfl hei (by kernel_rfl)
      have h8 : e 8 = false := hcl.not (i := 5) (j := 8) rfl hei (by kernel_rfl)
      have v5 : Eng.upd e 5 5 = true := upd_eq
      have v3 : Eng.upd e 5 3 = true := upd_mono h3
      have v4 : Eng.upd e 5 4 = true := upd_mono h4
      have v6 : Eng.upd e 5 6 = false := h6
      have v8 : Eng.upd e 5 8 = false := h8
      simp only [hei, h3, h4, h6, h8, cond_true, cond_false]
      have hx5 := x.hB5
      have hx7 := x.hb7
      skip
      refine OL.callE (α := RQ × Nat) (fun y => .slice y.1.q (delK R k).length y.1.c) (fun y => w.heap.size ≤ y.2) (fun y => Cls (row y.2 y.1.O y.1.q (delK R k).length y.1.c 45 2 (cat pc (delK R k)) :: (bif e 7 then blk x.b7 31 [(.int .i64 0), (.slice none 0 0)] else nothing) :: (nothing) :: (blk b4 31 [.int .i64 0, .slice none 0 0]) :: (blk b2 31 [.int .i64 room, .slice q R.length cap]) :: []) [w]) rfl rfl (by (repeat (first | exact Args.nil | (apply Args.cons rfl; ((first | exact fun _ => rfl | exact fun h => h | (intro h; simp_all; done))))))) (fun w2 hw2 => ?_) ?_
      · have h8 := hw2.below (s := w) (by (repeat (first | exact List.Mem.head _ | apply List.Mem.tail))) (Nat.le_refl _) (fun k hk => by (focus ((try simp only [add_block]); (repeat (first | exact NotOwned.nil | exact hno _ (by omega) | refine NotOwned.nothing ?_ | refine NotOwned.nds (hlow _ (by omega)) ?_ | refine NotOwned.mapS (by omega) ?_ | apply NotOwned.bif | refine NotOwned.blk (by omega) ?_ | refine NotOwned.row (by omega) ?_ | refine NotOwned.grid (by assumption) (by omega) ?_)); done)))
        have h9 := (hw2.kp w (by (repeat (first | exact List.Mem.head _ | apply List.Mem.tail)))).size
        exact (without_calls q cap R k w2 hR (h.keep h8 h9)).mono fun e w3 ⟨y, he, hc⟩ => ⟨(y, w2.heap.size), he, h9, Cls.plus hw2 hc (fun k hk => hk.1)⟩
      rintro ⟨y, B9⟩ hB9
      simp only at hB9 ⊢
      apply OL.nil
      exact At.beside { x with y5 := y, B5 := B9, hB5 := hB9 } (by repeat (first | exact Sub.nil | apply Sub.cons rfl | refine Sub.cons_eq rfl (by simp only [v5, v3, v4, v6, v8, cond_true, cond_false]) ?_)) (fun w' hw' => by simp only [v5, v3, v4, v6, v8, cond_true, cond_false]; exact Cls.fill (p := 1) (H := _) (.s .z) hw')
    · cases ho
      have h1 : e 1 = true := hd ⟨1, .data⟩ (by simp) rfl
      have h5 : e 5 = true := hd ⟨5, .data⟩ (by simp) rfl
      have v6 : Eng.upd e 6 6 = true := upd_eq
      have v1 : Eng.upd e 6 1 = true := upd_mono h1
      have v5 : Eng.upd e 6 5 = true := upd_mono h5
      simp only [hei, h1, h5, cond_true, cond_false]
      apply OL.op; exact Guard.none; rfl; rfl; apply Pev.build; rfl; exact CellsL.agg; rfl; apply Fill.cons rfl; exact CellsL.one rfl; rfl; rfl; apply Put.here; apply Over.cons; apply Over.nil; apply Fill.cons rfl; exact CellsL.one rfl; rfl; rfl; apply Put.skip; apply Put.here; apply Over.cons; apply Over.nil; apply Fill.nil; rfl
      apply OL.nil
      exact At.beside x (by repeat (first | exact Sub.nil | apply Sub.cons rfl | refine Sub.cons_eq rfl (by simp only [v6, v1, v5, cond_true, cond_false]) ?_)) (fun w' hw' => by first | exact hw' | (simp only [v6, v1, v5, cond_true, cond_false]; exact hw'))
    · cases ho
      have h8 : e 8 = false := hcl.not (i := 7) (j := 8) rfl hei (by kernel_rfl)
      have v7 : Eng.upd e 7 7 = true := upd_eq
      have v8 : Eng.upd e 7 8 = false := h8
      simp only [hei, h8, cond_true, cond_false]
      apply OL.alloc; rfl; rfl; exact CellsL.agg; (intro bk hbk; simp only [AllLe, and_true] at hbk)
      apply OL.nil
      exact At.beside { x with b7 := bk, hb7 := hbk } (by repeat (first | exact Sub.nil | apply Sub.cons rfl | refine Sub.cons_eq rfl (by simp only [v7, v8, cond_true, cond_false]) ?_)) (fun w' hw' => by simp only [v7, v8, cond_true, cond_false]; exact Cls.fill (p := 0) (H := _) .z hw')
    · cases ho
      have h7 : e 7 = true := hd ⟨7, .data⟩ (by simp) rfl
      have h6 : e 6 = true := hd ⟨6, .data⟩ (by simp) rfl
      have h5 : e 5 = true := hd ⟨5, .chain⟩ (by simp) rfl
      have v8 : Eng.upd e 8 8 = true := upd_eq
      have v7 : Eng.upd e 8 7 = true := upd_mono h7
      have v6 : Eng.upd e 8 6 = true := upd_mono h6
      have v5 : Eng.upd e 8 5 = true := upd_mono h5
      simp only [hei, h7, h6, h5, cond_true, cond_false]
      apply OL.storeB; rfl; rfl; exact CellsL.agg; rfl; rfl; rfl; apply Swap.z; apply Put.here; apply Over.cons; apply Over.cons; apply Over.nil
      apply OL.nil
      exact At.beside x (by repeat (first | exact Sub.nil | apply Sub.cons rfl | refine Sub.cons_eq rfl (by simp only [v8, v7, v6, v5, cond_true, cond_false]) ?_)) (fun w' hw' => by first | exact hw' | (simp only [v8, v7, v6, v5, cond_true, cond_false]; exact hw'))
  · intro x e hall
    have hx5 := x.hB5
    have hx7 := x.hb7
    simp only [hall 0 (by decide), hall 1 (by decide), hall 2 (by decide), hall 3 (by decide), hall 4 (by decide), hall 5 (by decide), hall 6 (by decide), hall 7 (by decide), hall 8 (by decide), cond_true, cond_false]
    have hdl := delK_le R k
    with_reducible apply At.next
    apply W.seq
    apply W.seq
    apply W.reg
    apply ofa; rfl; rfl; rfl
    apply old; rfl; rfl; exact .head _; rfl; rfl
    apply OL.op; exact Guard.none; rfl; rfl; apply Pev.len_slice; rfl; exact yes; rfl
    apply ofa; rfl; rfl; rfl
    apply old; rfl; rfl; apply List.Mem.tail; exact .tail _ (.tail _ (.head _)); rfl; rfl
    apply OL.op; exact Guard.none; rfl; rfl; apply Pev.len_slice; rfl; exact yes; rfl
    apply obn; rfl; rfl; rfl; apply Bin.eql
    apply OL.nil
    with_reducible apply At.next
    refine W.cond rfl (fun h2 => ?_) (fun h2 => ?_)
    · simp only [Bool.and_eq_true, Bool.or_eq_true, Bool.not_eq_true', Bool.and_eq_false_iff, Bool.or_eq_false_iff, Bool.not_eq_false', decide_eq_true_eq, decide_eq_false_iff_not, Int.not_lt, Int.not_le] at h2
      have hg : rdrop R k = (R, 12) := by rw [rdrop, if_pos (by omega)]
      rw [hg]
      apply W.seq
      apply W.reg
      apply OL.op; exact Guard.none; rfl; rfl; apply Pev.load_blkA; rfl; exact yes; apply List.Mem.tail; exact .tail _ (.tail _ (.head _)); rfl; apply Take.succ; apply Take.succ; apply Take.zero
      apply OL.storeB; rfl; rfl; exact CellsL.agg; rfl; rfl; rfl; apply Swap.s; apply Swap.s; apply Swap.z; apply Put.here; apply Over.cons; apply Over.cons; apply Over.nil
      apply oas; rfl; rfl
      apply OL.nil
      with_reducible apply At.next
      apply W.ret
      with_reducible apply At.then_ret
      refine At.finCT rfl rfl (.tail _ (.tail _ (.head _))) rfl rfl rfl (fun w' hw' => ?_)
      exact ⟨⟨q, cap, fun _ => False⟩, rfl, .inl ⟨rfl, rfl, rfl, by (exact hw'.toExt (by (repeat (first | exact List.Mem.head _ | apply List.Mem.tail))) (fun k hk => by (focus ((try simp only [add_block]); (repeat (first | exact NotOwned.nil | exact hno _ (by omega) | refine NotOwned.nothing ?_ | refine NotOwned.nds (hlow _ (by omega)) ?_ | refine NotOwned.mapS (by omega) ?_ | apply NotOwned.bif | refine NotOwned.blk (by omega) ?_ | refine NotOwned.row (by omega) ?_ | refine NotOwned.grid (by assumption) (by omega) ?_)); done))))⟩⟩
    · simp only [Bool.and_eq_true, Bool.or_eq_true, Bool.not_eq_true', Bool.and_eq_false_iff, Bool.or_eq_false_iff, Bool.not_eq_false', decide_eq_true_eq, decide_eq_false_iff_not, Int.not_lt, Int.not_le] at h2
      have hg : rdrop R k = (delK R k, 0) := by rw [rdrop, if_neg (by omega)]
      rw [hg]
      apply W.skip
      with_reducible apply At.next
      apply W.seq
      apply W.reg
      apply OL.op; exact Guard.none; rfl; rfl; apply Pev.load_blkA; rfl; exact yes; exact .head _; rfl; apply Take.succ; apply Take.succ; apply Take.zero
      apply OL.storeB; rfl; rfl; exact CellsL.agg; rfl; rfl; rfl; apply Swap.s; apply Swap.s; apply Swap.z; apply Put.here; apply Over.cons; apply Over.cons; apply Over.nil
      apply oas; rfl; rfl
      apply OL.nil
      with_reducible apply At.next
      apply W.ret
      refine At.finCT rfl rfl (.tail _ (.tail _ (.head _))) rfl rfl rfl (fun w' hw' => ?_)
      refine ⟨⟨x.y5.q, x.y5.c, fun k => x.B5 ≤ k ∧ x.y5.O k⟩, rfl, .inr ?_⟩
      have h3 := hw'.thin (Thin.blk ⟨hx7, trivial⟩ (Thin.keep (Thin.blk ⟨hb4, trivial⟩ (Thin.blk ⟨hb2, trivial⟩ Thin.nil))))
      exact Cls.row_base h3 hx5

structure XP (B : Nat) where
  b5 : Nat
  hb5 : B ≤ b5
  y9 : RQ
  B9 : Nat
  hB9 : B ≤ B9
  O10 : Nat → Prop
  g10 : Nat
  c10 : Nat
  b12 : Nat
  hb12 : B ≤ b12
  old : Nat → Value
structure PQ where
  L : PR
  evs : List BA
  y : RQ
theorem sumL_del : ∀ (R : PR) (k : BA), sumL (delK R k) ≤ sumL R
  | [], k => Nat.le_refl _
  | p :: R, k => by
    have ih := sumL_del R k
    show sumL (List.filter _ (p :: R)) ≤ _
    by_cases hp : p.1 = k
    · rw [List.filter_cons_of_neg (by simp [hp])]
      have : sumL (List.filter (fun p => !decide (p.1 = k)) R) ≤ sumL R := ih
      simp only [sumL]; omega
    · rw [List.filter_cons_of_pos (by simp [hp])]
      have : sumL (List.filter (fun p => !decide (p.1 = k)) R) ≤ sumL R := ih
      simp only [sumL]; omega
theorem ev_le2 {room need : Nat} : ∀ {L : PR}, ¬ room < sumL L + need → ev room need L = ([], L)
  | [], _ => rfl
  | p :: r, h => by rw [ev, if_neg h]
theorem RPut_bad (room : Nat) (q : Option Addr) (cap : Nat) (R : PR) (k v : BA) (w : World) (hkv : (k.size : Int) + v.size ≤ 9223372036854775807) (hbig : room < k.size + v.size) :
    Calls Try.prog 13 #[.agg #[.int .i64 (room : Int), .slice q R.length cap], .string k, .string v] w fun e w' => e = .returned (.tuple #[.agg #[.int .i64 (room : Int), .slice q R.length cap], .slice none 0 0, .int .i64 16]) ∧ Ext w w' := by
  refine enter Try.func13 rfl Try.ntmps13 rfl (Cls.start w) ?_
  (simp only [argEnv, Nat.zero_add, Nat.reduceAdd])
  apply W.seq
  apply W.reg
  apply OL.box; rfl; rfl; exact CellsL.agg; (intro bk hbk; simp only [AllLe, and_true] at hbk)
  apply OL.alloc; rfl; rfl; exact CellsL.agg; (intro bk hbk; simp only [AllLe, and_true] at hbk)
  apply oas; rfl; rfl
  apply oas; rfl; rfl
  apply OL.nil
  with_reducible apply At.next
  apply W.seq
  apply W.seq
  apply W.reg
  apply omv; rfl; rfl
  apply OL.op; exact Guard.none; rfl; rfl; apply Pev.len_str; rfl; exact yes; rfl
  apply omv; rfl; rfl
  apply OL.op; exact Guard.none; rfl; rfl; apply Pev.len_str; rfl; exact yes; rfl
  apply obn; rfl; rfl; rfl; apply Bin.add_in; omega
  apply ofa; rfl; rfl; rfl
  apply old; rfl; rfl; exact .tail _ (.head _); rfl; rfl
  apply obn; rfl; rfl; rfl; apply Bin.gtr
  apply OL.nil
  with_reducible apply At.next
  refine W.cond rfl (fun h => ?_) (fun h => ?_)
  · apply W.seq
    apply W.reg
    apply OL.op; exact Guard.none; rfl; rfl; apply Pev.load_blkA; rfl; exact yes; exact .tail _ (.head _); rfl; apply Take.succ; apply Take.succ; apply Take.zero
    apply OL.storeB; rfl; rfl; exact CellsL.agg; rfl; rfl; rfl; apply Swap.z; apply Put.here; apply Over.cons; apply Over.cons; apply Over.nil
    apply oas; rfl; rfl
    apply oas; rfl; rfl
    apply OL.nil
    with_reducible apply At.next
    apply W.ret
    with_reducible apply At.then_ret
    refine At.finCTT rfl rfl (.head _) rfl rfl rfl rfl (fun w' hw' => ?_)
    exact ⟨rfl, by (exact hw'.toExt (by (repeat (first | exact List.Mem.head _ | apply List.Mem.tail))) (fun k hk => by (focus ((try simp only [add_block]); (repeat (first | exact NotOwned.nil | exact hno _ (by omega) | refine NotOwned.nothing ?_ | refine NotOwned.nds (hlow _ (by omega)) ?_ | refine NotOwned.mapS (by omega) ?_ | apply NotOwned.bif | refine NotOwned.blk (by omega) ?_ | refine NotOwned.row (by omega) ?_ | refine NotOwned.grid (by assumption) (by omega) ?_)); done))))⟩
  · exfalso
    simp only [Bool.and_eq_true, Bool.or_eq_true, Bool.not_eq_true', Bool.and_eq_false_iff, Bool.or_eq_false_iff, Bool.not_eq_false', decide_eq_true_eq, decide_eq_false_iff_not, Int.not_lt, Int.not_le] at h
    omega

theorem RPut_calls (room : Nat) (q : Option Addr) (cap : Nat) (R : PR) (k v : BA) (w : World) (hroom : room ≤ 16777216) (hR : R.length ≤ 16777216) (hsR : sumL R ≤ room) (hkv : k.size + v.size ≤ room) (h : SlAt w w.heap.size q (cat pc R)) :
    Calls Try.prog 13 #[.agg #[.int .i64 (room : Int), .slice q R.length cap], .string k, .string v] w fun e w' => ∃ y ye : RQ, e = .returned (.tuple #[.agg #[.int .i64 (room : Int), .slice y.q (rput room R k v).1.length y.c], .slice ye.q (rput room R k v).2.1.length ye.c, .int .i64 0]) ∧
      Cls [row w.heap.size y.O y.q (rput room R k v).1.length y.c 45 2 (cat pc (rput room R k v).1), row w.heap.size ye.O ye.q (rput room R k v).2.1.length ye.c 9 1 (strs (rput room R k v).2.1)] [w] w' := by
  have hg : rput room R k v = ((k, v) :: (ev room (k.size + v.size) (delK R k).reverse).2.reverse, (ev room (k.size + v.size) (delK R k).reverse).1, 0) := by rw [rput, if_neg (by omega)]
  rw [hg]
  clear hg
  have hR : R.length ≤ 16777217 := by omega
  have hdl := delK_le R k
  have hds : sumL (delK R k) ≤ sumL R := sumL_del R k
  refine enter Try.func13 rfl Try.ntmps13 rfl (Cls.start w) ?_
  (simp only [argEnv, Nat.zero_add, Nat.reduceAdd])
  apply W.seq
  apply W.reg
  apply OL.box; rfl; rfl; exact CellsL.agg; (intro bk hbk; simp only [AllLe, and_true] at hbk)
  apply OL.alloc; rfl; rfl; exact CellsL.agg; (intro bk hbk; simp only [AllLe, and_true] at hbk)
  apply oas; rfl; rfl
  apply oas; rfl; rfl
  apply OL.nil
  with_reducible apply At.next
  apply W.seq
  apply W.seq
  apply W.reg
  apply omv; rfl; rfl
  apply OL.op; exact Guard.none; rfl; rfl; apply Pev.len_str; rfl; exact yes; rfl
  apply omv; rfl; rfl
  apply OL.op; exact Guard.none; rfl; rfl; apply Pev.len_str; rfl; exact yes; rfl
  apply obn; rfl; rfl; rfl; apply Bin.add_in; omega
  apply ofa; rfl; rfl; rfl
  apply old; rfl; rfl; exact .tail _ (.head _); rfl; rfl
  apply obn; rfl; rfl; rfl; apply Bin.gtr
  apply OL.nil
  with_reducible apply At.next
  rename_i b3 hb3
  revert bk
  intro b6 hb6
  refine W.cond rfl (fun h2 => ?_) (fun h2 => ?_)
  · exfalso
    simp only [Bool.and_eq_true, Bool.or_eq_true, Bool.not_eq_true', Bool.and_eq_false_iff, Bool.or_eq_false_iff, Bool.not_eq_false', decide_eq_true_eq, decide_eq_false_iff_not, Int.not_lt, Int.not_le] at h2
    omega
  · clear h2
    apply W.skip
    with_reducible apply At.next
    apply W.seq
    refine W.regany (X := XP w.heap.size) (fun x e => [(9, true, bif e 12 then .pointer (some ⟨x.b12, 0, none⟩) else x.old 9), (32, true, bif e 11 then .agg #[.int .i64 (room : Int), .slice (some ⟨x.g10, 0, none⟩) (1 + (delK R k).length) x.c10] else x.old 32), (31, true, bif e 10 then .slice (some ⟨x.g10, 0, none⟩) (1 + (delK R k).length) x.c10 else x.old 31), (30, true, bif e 9 then .slice x.y9.q (delK R k).length x.y9.c else x.old 30), (29, true, bif e 8 then .string k else x.old 29), (28, true, bif e 7 then .slice q R.length cap else x.old 28), (27, true, bif e 6 then .pointer (some ⟨b3, 0 + 1, none⟩) else x.old 27), (26, true, bif e 5 then .slice (some ⟨x.b5, 0, none⟩) 1 1 else x.old 26), (25, true, bif e 4 then .agg #[.string k, .string v] else x.old 25), (24, true, bif e 3 then .string v else x.old 24), (23, true, bif e 2 then .string k else x.old 23), (22, true, bif e 1 then .int .i64 (room : Int) else x.old 22), (21, true, bif e 0 then .pointer (some ⟨b3, 0 + 0, none⟩) else x.old 21), (6, true, .pointer (some ⟨b6, 0, none⟩)), (3, true, .pointer (some ⟨b3, 0, none⟩)), (1, true, .string k), (2, true, .string v)])
      (fun x e => (bif e 10 then row w.heap.size x.O10 (some ⟨x.g10, 0, none⟩) (1 + (delK R k).length) x.c10 45 2 ([.string k, .string v] ++ cat pc (delK R k)) else (bif e 5 then row w.heap.size (fun k => k = x.b5) (some ⟨x.b5, 0, none⟩) 1 1 45 2 [.string k, .string v] else nothing)) :: (bif e 9 then row x.B9 x.y9.O x.y9.q (delK R k).length x.y9.c 45 2 (cat pc (delK R k)) else nothing) :: (bif e 12 then blk x.b12 31 [(bif e 13 then .int .i64 (room : Int) else .int .i64 0), (bif e 13 then .slice (some ⟨x.g10, 0, none⟩) (1 + (delK R k).length) x.c10 else .slice none 0 0)] else nothing) :: (blk b6 31 [.int .i64 0, .slice none 0 0]) :: (blk b3 31 [.int .i64 (room : Int), .slice q R.length cap]) :: [])
      (fun old => ⟨w.heap.size, Nat.le_refl _, ⟨none, 0, fun _ => False⟩, w.heap.size, Nat.le_refl _, fun _ => False, 0, 0, w.heap.size, Nat.le_refl _, old⟩) (by kernel_rfl) (by kernel_rfl) (fun w hw => hw.drew) (fun old => by repeat (first | exact SubO.nil | apply SubO.cons rfl | refine SubO.old rfl ?_)) (fun old w' hw' => hw'.nothing_cons.nothing_cons.nothing_cons) ?_ ?_
    · intro x e i o ho hei hd hcl
      have hi : i < 14 := (List.getElem?_eq_some_iff.1 ho).1
      obtain rfl | rfl | rfl | rfl | rfl | rfl | rfl | rfl | rfl | rfl | rfl | rfl | rfl | rfl : i = 0 ∨ i = 1 ∨ i = 2 ∨ i = 3 ∨ i = 4 ∨ i = 5 ∨ i = 6 ∨ i = 7 ∨ i = 8 ∨ i = 9 ∨ i = 10 ∨ i = 11 ∨ i = 12 ∨ i = 13 := by omega
      · cases ho
        have v0 : Eng.upd e 0 0 = true := upd_eq
        simp only [hei, cond_true, cond_false]
        apply ofa; rfl; rfl; rfl
        apply OL.nil
        exact At.beside x (by repeat (first | exact Sub.nil | apply Sub.cons rfl | refine Sub.cons_eq rfl (by simp only [v0, cond_true, cond_false]) ?_)) (fun w' hw' => by first | exact hw' | (simp only [v0, cond_true, cond_false]; exact hw'))
      · cases ho
        have h0 : e 0 = true := hd ⟨0, .data⟩ (by simp) rfl
        have v1 : Eng.upd e 1 1 = true := upd_eq
        have v0 : Eng.upd e 1 0 = true := upd_mono h0
        simp only [hei, h0, cond_true, cond_false]
        apply old; rfl; rfl; apply List.Mem.tail; apply List.Mem.tail; exact .tail _ (.tail _ (.head _)); rfl; rfl
        apply OL.nil
        exact At.beside x (by repeat (first | exact Sub.nil | apply Sub.cons rfl | refine Sub.cons_eq rfl (by simp only [v1, v0, cond_true, cond_false]) ?_)) (fun w' hw' => by first | exact hw' | (simp only [v1, v0, cond_true, cond_false]; exact hw'))
      · cases ho
        have v2 : Eng.upd e 2 2 = true := upd_eq
        simp only [hei, cond_true, cond_false]
        apply omv; rfl; rfl
        apply OL.nil
        exact At.beside x (by repeat (first | exact Sub.nil | apply Sub.cons rfl | refine Sub.cons_eq rfl (by simp only [v2, cond_true, cond_false]) ?_)) (fun w' hw' => by first | exact hw' | (simp only [v2, cond_true, cond_false]; exact hw'))
      · cases ho
        have v3 : Eng.upd e 3 3 = true := upd_eq
        simp only [hei, cond_true, cond_false]
        apply omv; rfl; rfl
        apply OL.nil
        exact At.beside x (by repeat (first | exact Sub.nil | apply Sub.cons rfl | refine Sub.cons_eq rfl (by simp only [v3, cond_true, cond_false]) ?_)) (fun w' hw' => by first | exact hw' | (simp only [v3, cond_true, cond_false]; exact hw'))
      · cases ho
        have h2 : e 2 = true := hd ⟨2, .data⟩ (by simp) rfl
        have h3 : e 3 = true := hd ⟨3, .data⟩ (by simp) rfl
        have v4 : Eng.upd e 4 4 = true := upd_eq
        have v2 : Eng.upd e 4 2 = true := upd_mono h2
        have v3 : Eng.upd e 4 3 = true := upd_mono h3
        simp only [hei, h2, h3, cond_true, cond_false]
        apply OL.op; exact Guard.none; rfl; rfl; apply Pev.build; rfl; exact CellsL.agg; rfl; apply Fill.cons rfl; exact CellsL.one rfl; rfl; rfl; apply Put.here; apply Over.cons; apply Over.nil; apply Fill.cons rfl; exact CellsL.one rfl; rfl; rfl; apply Put.skip; apply Put.here; apply Over.cons; apply Over.nil; apply Fill.nil; rfl
        apply OL.nil
        exact At.beside x (by repeat (first | exact Sub.nil | apply Sub.cons rfl | refine Sub.cons_eq rfl (by simp only [v4, v2, v3, cond_true, cond_false]) ?_)) (fun w' hw' => by first | exact hw' | (simp only [v4, v2, v3, cond_true, cond_false]; exact hw'))
      · cases ho
        have h4 : e 4 = true := hd ⟨4, .data⟩ (by simp) rfl
        have h10 : e 10 = false := hcl.not (i := 5) (j := 10) rfl hei (by kernel_rfl)
        have v5 : Eng.upd e 5 5 = true := upd_eq
        have v4 : Eng.upd e 5 4 = true := upd_mono h4
        have v10 : Eng.upd e 5 10 = false := h10
        simp only [hei, h4, h10, cond_true, cond_false]
        apply OL.buildSlice; rfl; rfl; rfl; apply Elems.cons rfl; exact CellsL.agg; rfl; apply Elems.nil; apply App.cons; apply App.cons; apply App.nil; rfl; rfl; (intro bk hbk; simp only [AllLe, and_true] at hbk)
        apply OL.nil
        refine At.cls (fun w' hw' => Cls.blk_row (base := w.heap.size) (m := 1) (sz := 2) hw' hbk rfl (by decide)) ?_
        exact At.beside { x with b5 := bk, hb5 := hbk } (by repeat (first | exact Sub.nil | apply Sub.cons rfl | refine Sub.cons_eq rfl (by simp only [v5, v4, v10, cond_true, cond_false]) ?_)) (fun w' hw' => by simp only [v5, v4, v10, cond_true, cond_false]; exact Cls.fill (p := 0) (H := _) .z hw')
      · cases ho
        have v6 : Eng.upd e 6 6 = true := upd_eq
        simp only [hei, cond_true, cond_false]
        apply ofa; rfl; rfl; rfl
        apply OL.nil
        exact At.beside x (by repeat (first | exact Sub.nil | apply Sub.cons rfl | refine Sub.cons_eq rfl (by simp only [v6, cond_true, cond_false]) ?_)) (fun w' hw' => by first | exact hw' | (simp only [v6, cond_true, cond_false]; exact hw'))
      · cases ho
        have h6 : e 6 = true := hd ⟨6, .data⟩ (by simp) rfl
        have v7 : Eng.upd e 7 7 = true := upd_eq
        have v6 : Eng.upd e 7 6 = true := upd_mono h6
        simp only [hei, h6, cond_true, cond_false]
        apply old; rfl; rfl; apply List.Mem.tail; apply List.Mem.tail; exact .tail _ (.tail _ (.head _)); rfl; rfl
        apply OL.nil
        exact At.beside x (by repeat (first | exact Sub.nil | apply Sub.cons rfl | refine Sub.cons_eq rfl (by simp only [v7, v6, cond_true, cond_false]) ?_)) (fun w' hw' => by first | exact hw' | (simp only [v7, v6, cond_true, cond_false]; exact hw'))
      · cases ho
        have v8 : Eng.upd e 8 8 = true := upd_eq
        simp only [hei, cond_true, cond_false]
        apply omv; rfl; rfl
        apply OL.nil
        exact At.beside x (by repeat (first | exact Sub.nil | apply Sub.cons rfl | refine Sub.cons_eq rfl (by simp only [v8, cond_true, cond_false]) ?_)) (fun w' hw' => by first | exact hw' | (simp only [v8, cond_true, cond_false]; exact hw'))
      · cases ho
        have h7 : e 7 = true := hd ⟨7, .data⟩ (by simp) rfl
        have h8 : e 8 = true := hd ⟨8, .data⟩ (by simp) rfl
        have v9 : Eng.upd e 9 9 = true := upd_eq
        have v7 : Eng.upd e 9 7 = true := upd_mono h7
        have v8 : Eng.upd e 9 8 = true := upd_mono h8
        simp only [hei, h7, h8, cond_true, cond_false]
        have hx5 := x.hb5
        have hx9 := x.hB9
        have hx12 := x.hb12
        skip
        refine OL.callE (α := RQ × Nat) (fun y => .slice y.1.q (delK R k).length y.1.c) (fun y => w.heap.size ≤ y.2) (fun y => Cls (row y.2 y.1.O y.1.q (delK R k).length y.1.c 45 2 (cat pc (delK R k)) :: (bif e 10 then row w.heap.size x.O10 (some ⟨x.g10, 0, none⟩) (1 + (delK R k).length) x.c10 45 2 ([.string k, .string v] ++ cat pc (delK R k)) else (bif e 5 then row w.heap.size (fun k => k = x.b5) (some ⟨x.b5, 0, none⟩) 1 1 45 2 [.string k, .string v] else nothing)) :: (nothing) :: (bif e 12 then blk x.b12 31 [(bif e 13 then .int .i64 (room : Int) else .int .i64 0), (bif e 13 then .slice (some ⟨x.g10, 0, none⟩) (1 + (delK R k).length) x.c10 else .slice none 0 0)] else nothing) :: (blk b6 31 [.int .i64 0, .slice none 0 0]) :: (blk b3 31 [.int .i64 (room : Int), .slice q R.length cap]) :: []) [w]) rfl rfl (by (repeat (first | exact Args.nil | (apply Args.cons rfl; ((first | exact fun _ => rfl | exact fun h => h | (intro h; simp_all; done))))))) (fun w2 hw2 => ?_) ?_
        · have h8 := hw2.below (s := w) (by (repeat (first | exact List.Mem.head _ | apply List.Mem.tail))) (Nat.le_refl _) (fun k hk => by (focus ((try simp only [add_block]); (repeat (first | exact NotOwned.nil | exact hno _ (by omega) | refine NotOwned.nothing ?_ | refine NotOwned.nds (hlow _ (by omega)) ?_ | refine NotOwned.mapS (by omega) ?_ | apply NotOwned.bif | refine NotOwned.blk (by omega) ?_ | refine NotOwned.row (by omega) ?_ | refine NotOwned.grid (by assumption) (by omega) ?_)); done)))
          have h9 := (hw2.kp w (by (repeat (first | exact List.Mem.head _ | apply List.Mem.tail)))).size
          exact (without_calls q cap R k w2 hR (h.keep h8 h9)).mono fun e w3 ⟨y, he, hc⟩ => ⟨(y, w2.heap.size), he, h9, Cls.plus hw2 hc (fun k hk => hk.1)⟩
        rintro ⟨y, B9⟩ hB9
        simp only at hB9 ⊢
        apply OL.nil
        exact At.beside { x with y9 := y, B9 := B9, hB9 := hB9 } (by repeat (first | exact Sub.nil | apply Sub.cons rfl | refine Sub.cons_eq rfl (by simp only [v9, v7, v8, cond_true, cond_false]) ?_)) (fun w' hw' => by simp only [v9, v7, v8, cond_true, cond_false]; exact Cls.fill (p := 1) (H := _) (.s .z) hw')
      · cases ho
        have h5 : e 5 = true := hd ⟨5, .data⟩ (by simp) rfl
        have h9 : e 9 = true := hd ⟨9, .data⟩ (by simp) rfl
        have h11 : e 11 = false := hcl.not (i := 10) (j := 11) rfl hei (by kernel_rfl)
        have h13 : e 13 = false := hcl.not (i := 10) (j := 13) rfl hei (by kernel_rfl)
        have v10 : Eng.upd e 10 10 = true := upd_eq
        have v5 : Eng.upd e 10 5 = true := upd_mono h5
        have v9 : Eng.upd e 10 9 = true := upd_mono h9
        have v11 : Eng.upd e 10 11 = false := h11
        have v13 : Eng.upd e 10 13 = false := h13
        simp only [hei, h5, h9, h11, h13, cond_true, cond_false]
        apply OL.appendRR
        rfl
        rfl
        rfl
        rfl
        apply Hole.z
        exact .tail _ (.head _)
        exact cat_oneL (fun _ => rfl) _
        omega
        exact ⟨_, .head _, Nat.le_refl _⟩
        have hdl := delK_le R k
        omega
        intro O1 g1 cap1
        apply OL.nil
        exact At.beside { x with O10 := O1, g10 := g1, c10 := cap1 } (by repeat (first | exact Sub.nil | apply Sub.cons rfl | refine Sub.cons_eq rfl (by simp only [v10, v5, v9, v11, v13, cond_true, cond_false]) ?_)) (fun w' hw' => by first | exact hw' | (simp only [v10, v5, v9, v11, v13, cond_true, cond_false]; exact hw'))
      · cases ho
        have h1 : e 1 = true := hd ⟨1, .data⟩ (by simp) rfl
        have h10 : e 10 = true := hd ⟨10, .data⟩ (by simp) rfl
        have v11 : Eng.upd e 11 11 = true := upd_eq
        have v1 : Eng.upd e 11 1 = true := upd_mono h1
        have v10 : Eng.upd e 11 10 = true := upd_mono h10
        simp only [hei, h1, h10, cond_true, cond_false]
        apply OL.op; exact Guard.none; rfl; rfl; apply Pev.build; rfl; exact CellsL.agg; rfl; apply Fill.cons rfl; exact CellsL.one rfl; rfl; rfl; apply Put.here; apply Over.cons; apply Over.nil; apply Fill.cons rfl; exact CellsL.one rfl; rfl; rfl; apply Put.skip; apply Put.here; apply Over.cons; apply Over.nil; apply Fill.nil; rfl
        apply OL.nil
        exact At.beside x (by repeat (first | exact Sub.nil | apply Sub.cons rfl | refine Sub.cons_eq rfl (by simp only [v11, v1, v10, cond_true, cond_false]) ?_)) (fun w' hw' => by first | exact hw' | (simp only [v11, v1, v10, cond_true, cond_false]; exact hw'))
      · cases ho
        have h13 : e 13 = false := hcl.not (i := 12) (j := 13) rfl hei (by kernel_rfl)
        have v12 : Eng.upd e 12 12 = true := upd_eq
        have v13 : Eng.upd e 12 13 = false := h13
        simp only [hei, h13, cond_true, cond_false]
        apply OL.alloc; rfl; rfl; exact CellsL.agg; (intro bk hbk; simp only [AllLe, and_true] at hbk)
        apply OL.nil
        exact At.beside { x with b12 := bk, hb12 := hbk } (by repeat (first | exact Sub.nil | apply Sub.cons rfl | refine Sub.cons_eq rfl (by simp only [v12, v13, cond_true, cond_false]) ?_)) (fun w' hw' => by simp only [v12, v13, cond_true, cond_false]; exact Cls.fill (p := 2) (H := _) (.s (.s .z)) hw')
      · cases ho
        have h12 : e 12 = true := hd ⟨12, .data⟩ (by simp) rfl
        have h11 : e 11 = true := hd ⟨11, .data⟩ (by simp) rfl
        have h10 : e 10 = true := hd ⟨10, .chain⟩ (by simp) rfl
        have v13 : Eng.upd e 13 13 = true := upd_eq
        have v12 : Eng.upd e 13 12 = true := upd_mono h12
        have v11 : Eng.upd e 13 11 = true := upd_mono h11
        have v10 : Eng.upd e 13 10 = true := upd_mono h10
        simp only [hei, h12, h11, h10, cond_true, cond_false]
        apply OL.storeB; rfl; rfl; exact CellsL.agg; rfl; rfl; rfl; apply Swap.s; apply Swap.s; apply Swap.z; apply Put.here; apply Over.cons; apply Over.cons; apply Over.nil
        apply OL.nil
        exact At.beside x (by repeat (first | exact Sub.nil | apply Sub.cons rfl | refine Sub.cons_eq rfl (by simp only [v13, v12, v11, v10, cond_true, cond_false]) ?_)) (fun w' hw' => by first | exact hw' | (simp only [v13, v12, v11, v10, cond_true, cond_false]; exact hw'))
    · intro x e hall
      obtain ⟨b5, hb5, y9, B9, hB9, O10, g10, c10, b12, hb12, old⟩ := x
      simp only [hall 0 (by decide), hall 1 (by decide), hall 2 (by decide), hall 3 (by decide), hall 4 (by decide), hall 5 (by decide), hall 6 (by decide), hall 7 (by decide), hall 8 (by decide), hall 9 (by decide), hall 10 (by decide), hall 11 (by decide), hall 12 (by decide), hall 13 (by decide), cond_true, cond_false]
      have hcons : ([.string k, .string v] ++ cat pc (delK R k) : List Value) = cat pc ((k, v) :: (delK R k).reverse.reverse) := by rw [List.reverse_reverse]; rfl
      have hlen : 1 + (delK R k).length = ((k, v) :: (delK R k).reverse.reverse).length := by rw [List.reverse_reverse, List.length_cons]; omega
      rw [hcons, hlen]
      have hlr : (delK R k).reverse.length = (delK R k).length := List.length_reverse
      have hsr := sumL_reverse (delK R k)
      generalize (delK R k).reverse = L1 at hlr hsr ⊢
      with_reducible apply At.next
      apply W.seq
      apply W.reg
      apply oas; rfl; rfl
      apply OL.nil
      with_reducible apply At.next
      apply W.seq
      apply W.block
      refine W.loop (G := PQ) (fun g => g.evs.length + g.L.length ≤ L1.length ∧ sumL g.L ≤ sumL L1 ∧ ev room (k.size + v.size) L1 = (g.evs ++ (ev room (k.size + v.size) g.L).1, (ev room (k.size + v.size) g.L).2)) (fun g => g.L.length)
        (fun g => [(6, true, .pointer (some ⟨b6, 0, none⟩)), (9, true, .pointer (some ⟨b12, 0, none⟩)), (10, true, .slice g.y.q g.evs.length g.y.c)])
        (fun g => Cls [row w.heap.size O10 (some ⟨g10, 0, none⟩) ((k, v) :: g.L.reverse).length c10 45 2 (cat pc ((k, v) :: g.L.reverse)), row w.heap.size g.y.O g.y.q g.evs.length g.y.c 9 1 (strs g.evs), blk b12 31 [.int .i64 (room : Int), .slice (some ⟨g10, 0, none⟩) ((k, v) :: g.L.reverse).length c10], blk b6 31 [.int .i64 0, .slice none 0 0], blk b3 31 [.int .i64 (room : Int), .slice q R.length cap]] [w]) ⟨L1, [], none, 0, fun _ => False⟩ ⟨by simp, Nat.le_refl _, by simp⟩ (by (repeat (first | exact Sub.nil | apply Sub.cons rfl))) (fun w' hw' => Cls.flip ((hw'.thin (Thin.keep (Thin.row ⟨hB9, trivial⟩ Thin.same))).row_nil w.heap.size 9 1)) ?_
      rintro ⟨L, evs, qe, ce, Oe⟩ ⟨hle, hsl, hev⟩
      simp only at hle hsl hev ⊢
      have hsk : sumL ((k, v) :: L.reverse) = k.size + v.size + sumL L := by
        show k.size + v.size + sumL L.reverse = _
        rw [sumL_reverse]
      have hlk : ((k, v) :: L.reverse).length = L.length + 1 := by simp
      apply W.seq
      apply W.seq
      apply W.regd0; decide +kernel; kernel_rfl; decide +kernel; exact fun w hw => hw.drew
      apply QL.op; exact Guard.none; rfl; rfl; apply Pev.load_blkA; rfl; exact yes; exact .tail _ (.tail _ (.head _)); rfl; apply Take.succ; apply Take.succ; apply Take.zero
      (((first | (with_reducible apply OL.op) | (with_reducible apply QL.op)); ((first | exact Guard.none | exact Guard.yes rfl rfl | exact Guard.no rfl rfl | exact Guard.cyes rfl rfl | exact Guard.cno rfl rfl)); rfl; rfl); (exact Pev.call rfl (by (repeat (first | exact Args.nil | (apply Args.cons rfl; ((first | exact fun _ => rfl | exact fun h => h | (intro h; simp_all; done))))))) (fun _ w2 hw2 => (Bytes_calls room (some ⟨g10, 0, none⟩) c10 ((k, v) :: L.reverse) w2 (by omega) (by omega) (SlAt.of_row (hw2.item (.head _)))).mono (fun e w3 h => ⟨h.1, hw2.ext h.2⟩))))
      apply qfa; rfl; rfl; rfl
      apply qld; rfl; rfl; exact .tail _ (.tail _ (.head _)); rfl; rfl
      apply qbn; rfl; rfl; rfl; apply Bin.gtr
      apply QL.nil
      with_reducible apply At.next
      refine W.cond rfl (fun h2 => ?_) (fun h2 => ?_)
      · simp only [Bool.and_eq_true, Bool.or_eq_true, Bool.not_eq_true', Bool.and_eq_false_iff, Bool.or_eq_false_iff, Bool.not_eq_false', decide_eq_true_eq, decide_eq_false_iff_not, Int.not_lt, Int.not_le] at h2
        cases L with
        | nil =>
          have : sumL ([] : PR) = 0 := rfl
          exfalso; omega
        | cons p L3 =>
          obtain ⟨p1, p2⟩ := p
          have hspl : (k, v) :: ((p1, p2) :: L3).reverse = ((k, v) :: L3.reverse) ++ [(p1, p2)] := by simp
          clear hlk
          have hlL : ((k, v) :: ((p1, p2) :: L3).reverse).length = L3.length + 1 + 1 := by simp
          simp only [List.length_cons] at hle
          have hl3 : ((k, v) :: L3.reverse).length = L3.length + 1 := by simp
          have hx : ((k, v) :: ((p1, p2) :: L3).reverse)[L3.length + 1]? = some (p1, p2) := by
            rw [hspl, List.getElem?_append_right (by omega), hl3, Nat.sub_self]; rfl
          have hcat : (cat pc ((k, v) :: ((p1, p2) :: L3).reverse)).take ((L3.length + 1) * 2) = cat pc ((k, v) :: L3.reverse) := by
            rw [cat_take plen, hspl, ← hl3, List.take_left']
            rfl
          have hst : sumL ((p1, p2) :: L3) = p1.size + p2.size + sumL L3 := rfl
          generalize hgl : (k, v) :: ((p1, p2) :: L3).reverse = LL at *
          refine W.fact (φ := LL.length ≤ c10) (fun w' hw' => row_le (hw'.item (.head _))) (fun hcap => ?_)
          rw [hlL] at hcap
          rw [hlL]
          apply W.skip
          with_reducible apply At.next
          apply W.block
          apply W.seq
          apply W.reg
          apply ofa; rfl; rfl; rfl
          apply OL.op; exact Guard.none; rfl; rfl; apply Pev.load_blk; rfl; exact yes; exact .tail _ (.tail _ (.head _)); rfl; rfl
          apply ofa; rfl; rfl; rfl
          apply OL.op; exact Guard.none; rfl; rfl; apply Pev.load_blk; rfl; exact yes; exact .tail _ (.tail _ (.head _)); rfl; rfl
          apply OL.op; exact Guard.none; rfl; rfl; apply Pev.len_slice; rfl; exact yes; rfl
          apply obn; rfl; rfl; rfl; apply Bin.sub_in; omega
          apply OL.op; exact Guard.none; rfl; rfl; apply Pev.idxB; rfl; exact yes; rfl; exact yes; rfl; intro hcond; omega; rfl
          (((first | (with_reducible apply OL.op) | (with_reducible apply QL.op)); ((first | exact Guard.none | exact Guard.yes rfl rfl | exact Guard.no rfl rfl | exact Guard.cyes rfl rfl | exact Guard.cno rfl rfl)); rfl; rfl); (refine Pev.load_clsA (vs := [.string p1, .string p2]) rfl (by (first | exact fun _ => rfl | exact fun h => h | (intro h; simp_all; done))) rfl rfl (fun _ w3 hw3 jj u hj => ?_)))
          · rw [add_mid]
            have h8 := cat_get plen hx jj u hj
            rw [show 0 + (((L3.length + 1 + 1 : Nat) : Int) - 1).toNat * 2 + jj = (L3.length + 1) * 2 + jj by omega]
            exact row_cell (hw3.item (.head _)) h8
          apply OL.alloc; rfl; rfl; exact CellsL.agg; (intro bk hbk; simp only [AllLe, and_true] at hbk)
          apply OL.storeB; rfl; rfl; exact CellsL.agg; rfl; rfl; rfl; apply Swap.z; apply Put.here; apply Over.cons; apply Over.cons; apply Over.nil
          apply OL.nil
          with_reducible apply At.next
          apply W.seq
          apply W.reg
          apply omv; rfl; rfl
          apply ofa; rfl; rfl; rfl
          apply OL.op; exact Guard.none; rfl; rfl; apply Pev.load_blk; rfl; exact yes; exact .head _; rfl; rfl
          apply OL.buildSlice; rfl; rfl; rfl; apply Elems.cons rfl; exact CellsL.one rfl; rfl; apply Elems.nil; apply App.cons; apply App.nil; rfl; rfl; (intro bk hbk; simp only [AllLe, and_true] at hbk)
          apply OL.append; rfl; rfl; rfl; rfl; apply Hole.s; apply Hole.s; apply Hole.s; apply Hole.z; exact .head _; apply Take.succ; apply Take.zero; rfl; rfl; exact ⟨_, .head _, Nat.le_refl _⟩; omega; intro O1 g1 cap1
          apply oas; rfl; rfl
          apply OL.nil
          with_reducible apply At.next
          apply W.reg
          apply ofa; rfl; rfl; rfl
          apply OL.op; exact Guard.none; rfl; rfl; apply Pev.load_blk; rfl; exact yes; apply List.Mem.tail; apply List.Mem.tail; exact .tail _ (.tail _ (.head _)); rfl; rfl
          apply ofa; rfl; rfl; rfl
          apply OL.op; exact Guard.none; rfl; rfl; apply Pev.load_blk; rfl; exact yes; apply List.Mem.tail; apply List.Mem.tail; exact .tail _ (.tail _ (.head _)); rfl; rfl
          apply OL.op; exact Guard.none; rfl; rfl; apply Pev.len_slice; rfl; exact yes; rfl
          apply obn; rfl; rfl; rfl; apply Bin.sub_in; omega
          apply OL.op; exact Guard.none; rfl; rfl; apply Pev.slice_hi; rfl; exact yes; rfl; exact yes; rfl; (first | exact (Int.toNat_of_nonneg (by omega)).symm | omega); intro hcond; omega
          apply ofa; rfl; rfl; rfl
          apply OL.storeB; rfl; rfl; exact CellsL.one rfl; rfl; rfl; rfl; apply Swap.s; apply Swap.s; apply Swap.s; apply Swap.s; apply Swap.z; apply Put.skip; apply Put.here; apply Over.cons; apply Over.nil
          apply OL.nil
          with_reducible apply At.in_normal
          rw [show (((L3.length + 1 + 1 : Nat) : Int) - 1).toNat = ((k, v) :: L3.reverse).length by omega, show evs.length + 1 = (evs ++ [p1]).length by simp, show strs evs ++ [.string p1] = strs (evs ++ [p1]) by simp [strs]]
          refine At.again ⟨L3, evs ++ [p1], some ⟨g1, 0, none⟩, cap1, O1⟩ ⟨by simp only [List.length_append, List.length_cons, List.length_nil]; omega, by simp only; omega, ?_⟩ (by simp) (by (repeat (first | exact Sub.nil | apply Sub.cons rfl))) (fun w' hw' => ?_)
          · rw [hev]
            rw [ev, if_pos (show room < sumL ((p1, p2) :: L3) + (k.size + v.size) by omega)]
            simp
          · have h3 := Cls.row_part (k := L3.length + 1) (hw'.thin (by (repeat (first | exact Thin.nil | exact Thin.same | apply Thin.keep | (refine Thin.blk (by assumption) ?_) | (refine Thin.blk (by simp only [AllLe, and_true]; omega) ?_))))) (by omega)
            rw [hcat, ← hl3] at h3
            exact h3
      · simp only [Bool.and_eq_true, Bool.or_eq_true, Bool.not_eq_true', Bool.and_eq_false_iff, Bool.or_eq_false_iff, Bool.not_eq_false', decide_eq_true_eq, decide_eq_false_iff_not, Int.not_lt, Int.not_le] at h2
        have hevs := ev_le2 (room := room) (need := k.size + v.size) (L := L) (by omega)
        rw [hevs] at hev
        rw [hev]
        simp only [List.append_nil]
        apply W.exit
        with_reducible apply At.then_exit
        with_reducible apply At.then_exit
        with_reducible apply At.in_exit
        with_reducible apply At.next
        apply W.seq
        apply W.reg
        apply OL.op; exact Guard.none; rfl; rfl; apply Pev.load_blkA; rfl; exact yes; exact .tail _ (.tail _ (.head _)); rfl; apply Take.succ; apply Take.succ; apply Take.zero
        apply omv; rfl; rfl
        apply OL.storeB; rfl; rfl; exact CellsL.agg; rfl; rfl; rfl; apply Swap.s; apply Swap.s; apply Swap.s; apply Swap.z; apply Put.here; apply Over.cons; apply Over.cons; apply Over.nil
        apply oas; rfl; rfl
        apply oas; rfl; rfl
        apply OL.nil
        with_reducible apply At.next
        apply W.ret
        refine At.finCTT rfl rfl (.tail _ (.tail _ (.tail _ (.head _)))) rfl rfl rfl rfl (fun w' hw' => ?_)
        refine ⟨⟨some ⟨g10, 0, none⟩, c10, O10⟩, ⟨qe, ce, Oe⟩, rfl, ?_⟩
        exact hw'.thin (Thin.keep (Thin.keep (Thin.blk ⟨hb12, trivial⟩ (Thin.blk ⟨hb6, trivial⟩ (Thin.blk ⟨hb3, trivial⟩ Thin.nil)))))
end Go.Proofs.Ytlcclcakdfmgkaa.st
