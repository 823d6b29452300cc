/- The walk of core's treeError. Conditions: none. (Printed by cod.py.) -/
import Derived.Test.YtlboppiogeaicaaDoorCoS
import Derived.Test.YtlboppiogeaicaaDoorCoA
import Derived.Test.YtlboppiogeaicaaDoorAny
import Derived.Test.YtlboppiogeaicaaDoorMake
namespace Go.Proofs.YtlboppiogeaicaaDoor.co
open Go.RowKit Go.Eng Go.Co
set_option linter.unusedVariables false
set_option linter.unusedSimpArgs false
set_option maxRecDepth 100000
structure XM (S : List World) where
  b1 : Nat
  hb1 : AllLe S b1
  b2 : Nat
  hb2 : AllLe S b2
  old : Nat → Value
theorem treeError_calls (es : List (Ex × ExY)) (q : Option Addr) (cap : Nat) (w : World) (he : Arr exR w (low w) es q) (hlen : es.length ≤ 9223372036854775807) :
    Calls Tryd.prog 64 [.slice q es.length cap].toArray w fun e w' => e = .returned (.int .i64 (treeE (es.map Prod.fst))) ∧ Ext w w' := by
  obtain ⟨e, hee⟩ : ∃ e, es.map Prod.fst = e := ⟨_, rfl⟩
  have hel : e.length = es.length := by rw [← hee, List.length_map]
  rw [hee]
  refine enter Tryd.func64 rfl Tryd.ntmps64 rfl (Cls.start w) ?_
  (simp only [argEnv, Nat.zero_add, Nat.reduceAdd])
  apply W.seq
  apply W.reg
  apply oas; rfl; rfl
  apply OL.nil
  with_reducible apply At.next
  apply W.seq
  apply W.seq
  apply W.reg
  apply omv; rfl; rfl
  apply OL.op; exact Guard.none; rfl; rfl; apply Pev.len_slice; rfl; exact yes; rfl
  apply obn; rfl; rfl; rfl; apply Bin.gtr
  apply OL.nil
  with_reducible apply At.next
  (refine W.cond rfl (fun hbig => ?_) (fun hbig => ?_)) <;> (try (simp only [Bool.and_eq_true, Bool.or_eq_true, Bool.not_eq_true', Bool.and_eq_false_iff, Bool.or_eq_false_iff, Bool.not_eq_false', decide_eq_true_eq, decide_eq_false_iff_not, Int.not_lt, Int.not_le] at hbig)) <;> (try (exfalso; first | omega | exact hbig trivial | contradiction))
  · apply W.seq
    apply W.reg
    apply oas; rfl; rfl
    apply OL.nil
    with_reducible apply At.next
    apply W.ret
    with_reducible apply At.then_ret
    ((with_reducible apply At.fin1); rfl; rfl; intro w' hw')
    exact ⟨by rw [treeE_big (by omega)], by (exact hw'.toExt (by (repeat (first | exact List.Mem.head _ | apply List.Mem.tail))) (fun k hk => by (focus ((try simp only [add_block]); (repeat (first | exact NotOwned.nil | exact hno _ (by omega) | refine NotOwned.nothing ?_ | refine NotOwned.nds (hlow _ (by omega)) ?_ | refine NotOwned.mapS (by omega) ?_ | apply NotOwned.bif | refine NotOwned.blk (by omega) ?_ | refine NotOwned.row (by omega) ?_ | refine NotOwned.grid (by assumption) (by omega) ?_ | refine NotOwned.pile (by omega) ?_ | refine NotOwned.pool (by omega) ?_ | refine NotOwned.mapI (by omega) ?_ | refine NotOwned.mapX (by omega) ?_ | refine NotOwned.itI (by omega) ?_)); done))))⟩
  apply W.skip
  with_reducible apply At.next
  apply W.seq
  apply W.seq
  apply W.reg
  apply omv; rfl; rfl
  apply OL.op; exact Guard.none; rfl; rfl; apply Pev.len_slice; rfl; exact yes; rfl
  apply obn; rfl; rfl; rfl; apply Bin.eql
  apply OL.nil
  with_reducible apply At.next
  (refine W.cond rfl (fun h0 => ?_) (fun h0 => ?_)) <;> (try (simp only [Bool.and_eq_true, Bool.or_eq_true, Bool.not_eq_true', Bool.and_eq_false_iff, Bool.or_eq_false_iff, Bool.not_eq_false', decide_eq_true_eq, decide_eq_false_iff_not, Int.not_lt, Int.not_le] at h0)) <;> (try (exfalso; first | omega | exact h0 trivial | contradiction))
  · apply W.seq
    apply W.reg
    apply oas; rfl; rfl
    apply OL.nil
    with_reducible apply At.next
    apply W.ret
    with_reducible apply At.then_ret
    ((with_reducible apply At.fin1); rfl; rfl; intro w' hw')
    exact ⟨by rw [treeE_bad (by omega) (fun h => by omega)], by (exact hw'.toExt (by (repeat (first | exact List.Mem.head _ | apply List.Mem.tail))) (fun k hk => by (focus ((try simp only [add_block]); (repeat (first | exact NotOwned.nil | exact hno _ (by omega) | refine NotOwned.nothing ?_ | refine NotOwned.nds (hlow _ (by omega)) ?_ | refine NotOwned.mapS (by omega) ?_ | apply NotOwned.bif | refine NotOwned.blk (by omega) ?_ | refine NotOwned.row (by omega) ?_ | refine NotOwned.grid (by assumption) (by omega) ?_ | refine NotOwned.pile (by omega) ?_ | refine NotOwned.pool (by omega) ?_ | refine NotOwned.mapI (by omega) ?_ | refine NotOwned.mapX (by omega) ?_ | refine NotOwned.itI (by omega) ?_)); done))))⟩
  apply W.skip
  with_reducible apply At.next
  apply W.seq
  refine W.regany (X := XM [w]) (fun x e => [(4, true, bif e 7 then .slice (some ⟨x.b2, 0, none⟩) es.length es.length else x.old 4), (3, true, bif e 6 then .slice (some ⟨x.b1, 0, none⟩) es.length es.length else x.old 3), (22, true, bif e 5 then .slice (some ⟨x.b2, 0, none⟩) es.length es.length else x.old 22), (21, true, bif e 4 then .int .i64 (es.length : Int) else x.old 21), (20, true, bif e 3 then .slice q es.length cap else x.old 20), (19, true, bif e 2 then .slice (some ⟨x.b1, 0, none⟩) es.length es.length else x.old 19), (18, true, bif e 1 then .int .i64 (es.length : Int) else x.old 18), (17, true, bif e 0 then .slice q es.length cap else x.old 17), (0, true, .slice q es.length cap)])
    (fun x e => (bif e 2 then blk x.b1 3 (List.replicate es.length (.int .i64 0)) else nothing) :: (bif e 5 then blk x.b2 3 (List.replicate es.length (.int .i64 0)) else nothing) :: [])
    (fun old => ⟨w.heap.size, ⟨Nat.le_refl _, trivial⟩, w.heap.size, ⟨Nat.le_refl _, trivial⟩, old⟩) (by kernel_rfl) (by kernel_rfl) (fun w hw => hw.drew) (fun old => by repeat (first | exact SubO.nil | apply SubO.cons rfl | refine SubO.old rfl ?_)) (fun old w' hw' => hw'.add_nothing.add_nothing) ?_ ?_
  · intro x e i o ho hei hd hcl
    have hi : i < 8 := (List.getElem?_eq_some_iff.1 ho).1
    obtain rfl | rfl | rfl | rfl | rfl | rfl | rfl | rfl : i = 0 ∨ i = 1 ∨ i = 2 ∨ i = 3 ∨ i = 4 ∨ i = 5 ∨ i = 6 ∨ i = 7 := by omega
    · cases ho
      have v0 : Eng.upd e 0 0 = true := upd_eq
      simp only [hei, cond_true, cond_false]
      apply omv; rfl; rfl
      apply OL.nil
      exact At.beside x (by repeat (first | exact Sub.nil | apply Sub.cons rfl | refine Sub.cons_eq rfl (by simp only [v0, cond_true, cond_false]) ?_)) (fun w' hw' => by first | exact hw' | (simp only [v0, cond_true, cond_false]; exact hw'))
    · cases ho
      have h0 : e 0 = true := hd ⟨0, .data⟩ (by simp) rfl
      have v1 : Eng.upd e 1 1 = true := upd_eq
      have v0 : Eng.upd e 1 0 = true := upd_mono h0
      simp only [hei, h0, cond_true, cond_false]
      apply OL.op; exact Guard.none; rfl; rfl; apply Pev.len_slice; rfl; exact yes; rfl
      apply OL.nil
      exact At.beside x (by repeat (first | exact Sub.nil | apply Sub.cons rfl | refine Sub.cons_eq rfl (by simp only [v1, v0, cond_true, cond_false]) ?_)) (fun w' hw' => by first | exact hw' | (simp only [v1, v0, cond_true, cond_false]; exact hw'))
    · cases ho
      have h1 : e 1 = true := hd ⟨1, .data⟩ (by simp) rfl
      have h6 : e 6 = false := hcl.not (i := 2) (j := 6) rfl hei (by kernel_rfl)
      have v2 : Eng.upd e 2 2 = true := upd_eq
      have v1 : Eng.upd e 2 1 = true := upd_mono h1
      have v6 : Eng.upd e 2 6 = false := h6
      simp only [hei, h1, h6, cond_true, cond_false]
      apply OL.makeSlice; rfl; rfl; rfl; rfl; rfl; rfl; rfl; omega; (intro bk hbk; simp only [AllLe, and_true] at hbk)
      apply OL.nil
      exact At.beside { x with b1 := bk, hb1 := ⟨hbk, trivial⟩ } (by repeat (first | exact Sub.nil | apply Sub.cons rfl | refine Sub.cons_eq rfl (by simp only [v2, v1, v6, cond_true, cond_false]) ?_)) (fun w' hw' => by simp only [v2, v1, v6, cond_true, cond_false]; exact Cls.fill (p := 0) (H := _ :: _ :: []) .z hw')
    · cases ho
      have v3 : Eng.upd e 3 3 = true := upd_eq
      simp only [hei, cond_true, cond_false]
      apply omv; rfl; rfl
      apply OL.nil
      exact At.beside x (by repeat (first | exact Sub.nil | apply Sub.cons rfl | refine Sub.cons_eq rfl (by simp only [v3, cond_true, cond_false]) ?_)) (fun w' hw' => by first | exact hw' | (simp only [v3, cond_true, cond_false]; exact hw'))
    · cases ho
      have h3 : e 3 = true := hd ⟨3, .data⟩ (by simp) rfl
      have v4 : Eng.upd e 4 4 = true := upd_eq
      have v3 : Eng.upd e 4 3 = true := upd_mono h3
      simp only [hei, h3, cond_true, cond_false]
      apply OL.op; exact Guard.none; rfl; rfl; apply Pev.len_slice; rfl; exact yes; rfl
      apply OL.nil
      exact At.beside x (by repeat (first | exact Sub.nil | apply Sub.cons rfl | refine Sub.cons_eq rfl (by simp only [v4, v3, cond_true, cond_false]) ?_)) (fun w' hw' => by first | exact hw' | (simp only [v4, v3, cond_true, cond_false]; exact hw'))
    · cases ho
      have h4 : e 4 = true := hd ⟨4, .data⟩ (by simp) rfl
      have h7 : e 7 = false := hcl.not (i := 5) (j := 7) rfl hei (by kernel_rfl)
      have v5 : Eng.upd e 5 5 = true := upd_eq
      have v4 : Eng.upd e 5 4 = true := upd_mono h4
      have v7 : Eng.upd e 5 7 = false := h7
      simp only [hei, h4, h7, cond_true, cond_false]
      apply OL.makeSlice; rfl; rfl; rfl; rfl; rfl; rfl; rfl; omega; (intro bk hbk; simp only [AllLe, and_true] at hbk)
      apply OL.nil
      exact At.beside { x with b2 := bk, hb2 := ⟨hbk, trivial⟩ } (by repeat (first | exact Sub.nil | apply Sub.cons rfl | refine Sub.cons_eq rfl (by simp only [v5, v4, v7, cond_true, cond_false]) ?_)) (fun w' hw' => by simp only [v5, v4, v7, cond_true, cond_false]; exact Cls.fill (p := 1) (H := _ :: _ :: []) (.s .z) hw')
    · cases ho
      have h2 : e 2 = true := hd ⟨2, .data⟩ (by simp) rfl
      have v6 : Eng.upd e 6 6 = true := upd_eq
      have v2 : Eng.upd e 6 2 = true := upd_mono h2
      simp only [hei, h2, cond_true, cond_false]
      apply oas; rfl; rfl
      apply OL.nil
      exact At.beside x (by repeat (first | exact Sub.nil | apply Sub.cons rfl | refine Sub.cons_eq rfl (by simp only [v6, v2, cond_true, cond_false]) ?_)) (fun w' hw' => by first | exact hw' | (simp only [v6, v2, cond_true, cond_false]; exact hw'))
    · cases ho
      have h5 : e 5 = true := hd ⟨5, .data⟩ (by simp) rfl
      have v7 : Eng.upd e 7 7 = true := upd_eq
      have v5 : Eng.upd e 7 5 = true := upd_mono h5
      simp only [hei, h5, cond_true, cond_false]
      apply oas; rfl; rfl
      apply OL.nil
      exact At.beside x (by repeat (first | exact Sub.nil | apply Sub.cons rfl | refine Sub.cons_eq rfl (by simp only [v7, v5, cond_true, cond_false]) ?_)) (fun w' hw' => by first | exact hw' | (simp only [v7, v5, cond_true, cond_false]; exact hw'))
  · intro x e2 hall
    have hx1 : w.heap.size ≤ x.b1 := x.hb1.1
    have hx2 : w.heap.size ≤ x.b2 := x.hb2.1
    simp only [hall 0 (by decide), hall 1 (by decide), hall 2 (by decide), hall 3 (by decide), hall 4 (by decide), hall 5 (by decide), hall 6 (by decide), hall 7 (by decide), cond_true]
    generalize x.b1 = bd at *
    generalize x.b2 = bp at *
    clear x
    have hrz : List.replicate es.length (Value.int .i64 0) = ints (dl e 0 0) := by rw [← dl_zero, hel]
    have hrp : List.replicate es.length (Value.int .i64 0) = ints (pl e []) := by rw [← pl_zero, hel]
    have hget : ∀ {i : Nat}, i < es.length → ∃ a p, q = some a ∧ a.block < w.heap.size ∧ es[i]? = some p ∧ e[i]? = some p.1 ∧ CellsAt w (a.add (i * 5)) [.int .i64 p.1.op, .int .i64 p.1.n, .slice p.2.b.1 p.1.binds.length p.2.b.2, .slice p.2.k.1 p.1.kids.length p.2.k.2, .slice p.2.a.1 p.1.alts.length p.2.a.2] ∧ ExOk w (low w) p.1 p.2 := fun {i} hi => by
      obtain ⟨a, p, h1, h2, h3, h4, h5⟩ := he.get hi
      exact ⟨a, p, h1, h2, h3, by rw [← hee, List.getElem?_map, h3]; rfl, h4, h5⟩
    have h4096 : es.length ≤ 4096 := by omega
    have hkall : ∀ x ∈ e, x.kids.length ≤ 140737488355328 := fun x hx => by
      rw [← hee] at hx
      obtain ⟨p, hp, rfl⟩ := List.mem_map.1 hx
      exact (he.el p hp).kl
    with_reducible apply At.next
    apply W.seq
    apply W.seq
    apply W.reg
    apply omv; rfl; rfl
    apply OL.op; exact Guard.none; rfl; rfl; apply Pev.len_slice; rfl; exact yes; rfl
    apply omv; rfl; rfl
    apply OL.nil
    with_reducible apply At.next
    apply W.block
    refine W.loop (G := Nat) (fun i => i ≤ es.length ∧ ∀ (j : Nat) (x : Ex), j < i → e[j]? = some x → ∀ k ∈ x.kids, 0 ≤ k ∧ k < (j : Int)) (fun i => es.length - i)
      (fun i => [(0, true, .slice q es.length cap), (3, true, .slice (some ⟨bd, 0, none⟩) es.length es.length), (4, true, .slice (some ⟨bp, 0, none⟩) es.length es.length), (23, true, .slice q es.length cap), (24, true, .int .i64 (es.length : Int)), (25, true, .int .i64 (i : Int))])
      (fun i => Cls [blk bd 3 (ints (dl e i 0)), blk bp 3 (ints (pl e (kidsTo e i 0)))] [w]) 0 ⟨by omega, fun j x hj => by omega⟩ (by (repeat (first | exact Sub.nil | apply Sub.cons rfl | (refine Sub.cons_eq rfl (congrArg (Value.int .i64) (by first | omega | (simp only; omega))) ?_)))) (fun w' hw' => by rw [← hrz, kidsTo_zero, ← hrp]; exact hw') ?_
    rintro i ⟨hi, hdn⟩
    apply W.seq
    apply W.reg
    apply obn; rfl; rfl; rfl; apply Bin.lss
    apply OL.nil
    with_reducible apply At.next
    apply W.seq
    (refine W.cond rfl (fun hlt => ?_) (fun hlt => ?_)) <;> (try (simp only [Bool.and_eq_true, Bool.or_eq_true, Bool.not_eq_true', Bool.and_eq_false_iff, Bool.or_eq_false_iff, Bool.not_eq_false', decide_eq_true_eq, decide_eq_false_iff_not, Int.not_lt, Int.not_le] at hlt)) <;> (try (exfalso; first | omega | exact hlt trivial | contradiction))
    · have hil : i < es.length := by omega
      have hile : i < e.length := by omega
      obtain ⟨a, p, rfl, hab, hp, hpe, hcell, hok⟩ := hget hil
      have hkl := hok.kl
      apply W.skip
      with_reducible apply At.next
      apply W.seq
      apply W.block
      apply W.seq
      apply W.reg
      apply omv; rfl; rfl
      apply OL.op; exact Guard.none; rfl; rfl; apply Pev.idx; rfl; exact yes; rfl; exact yes; rfl; rfl; intro hcond; omega
      apply OL.op; exact Guard.none; rfl; rfl; apply Pev.load_keptA; rfl; exact yes; exact .head _; rfl; intro hcond; assumption; rfl; intro hcond; (rw [add_block]; assumption); intro hcond; simp only [add_block]; refine NotOwned.blk (by omega) ?_; refine NotOwned.blk (by omega) ?_; exact NotOwned.nil
      apply OL.alloc; rfl; rfl; exact CellsL.agg; (intro bk hbk; simp only [AllLe, and_true] at hbk)
      apply oas; rfl; rfl
      apply OL.storeB; rfl; rfl; exact CellsL.agg; rfl; rfl; rfl; apply Swap.z; apply Put.here; apply Over.cons; apply Over.cons; apply Over.cons; apply Over.cons; apply Over.cons; apply Over.nil
      apply OL.nil
      with_reducible apply At.next
      apply W.seq
      apply W.seq
      apply W.reg
      apply ofa; rfl; rfl; rfl
      apply old; rfl; rfl; exact .head _; rfl; rfl
      apply OL.op; exact Guard.none; rfl; rfl; apply Pev.len_slice; rfl; exact yes; rfl
      apply omv; rfl; rfl
      apply OL.nil
      with_reducible apply At.next
      apply W.block
      revert bk
      intro bx hbx
      skip
      refine W.loop (G := Nat) (fun j => j ≤ p.1.kids.length ∧ ∀ (m : Nat) (k : Int), m < j → p.1.kids[m]? = some k → 0 ≤ k ∧ k < (i : Int)) (fun j => p.1.kids.length - j)
        (fun j => [(0, true, .slice (some a) es.length cap), (3, true, .slice (some ⟨bd, 0, none⟩) es.length es.length), (4, true, .slice (some ⟨bp, 0, none⟩) es.length es.length), (5, true, .int .i64 (i : Int)), (23, true, .slice (some a) es.length cap), (24, true, .int .i64 (es.length : Int)), (25, true, .int .i64 (i : Int)), (31, true, .slice p.2.k.1 p.1.kids.length p.2.k.2), (32, true, .int .i64 (p.1.kids.length : Int)), (33, true, .int .i64 (j : Int))])
        (fun j => Cls [blk bd 3 (ints (dl e i (mx e p.1 j))), blk bp 3 (ints (pl e (kidsTo e i j)))] [w]) 0 ⟨by omega, fun m k hm => by omega⟩ (by (repeat (first | exact Sub.nil | apply Sub.cons rfl | (refine Sub.cons_eq rfl (congrArg (Value.int .i64) (by first | omega | (simp only; omega))) ?_)))) (fun w' hw' => by rw [mx_zero]; exact hw'.thin (by (repeat (first | exact Thin.nil | exact Thin.same | apply Thin.keep | (refine Thin.blk (by assumption) ?_) | (refine Thin.blk (by simp only [AllLe, and_true]; omega) ?_))))) ?_
      rintro j ⟨hj, hks⟩
      apply W.seq
      apply W.reg
      apply obn; rfl; rfl; rfl; apply Bin.lss
      apply OL.nil
      with_reducible apply At.next
      apply W.seq
      (refine W.cond rfl (fun hlt2 => ?_) (fun hlt2 => ?_)) <;> (try (simp only [Bool.and_eq_true, Bool.or_eq_true, Bool.not_eq_true', Bool.and_eq_false_iff, Bool.or_eq_false_iff, Bool.not_eq_false', decide_eq_true_eq, decide_eq_false_iff_not, Int.not_lt, Int.not_le] at hlt2)) <;> (try (exfalso; first | omega | exact hlt2 trivial | contradiction))
      · have hjl : j < p.1.kids.length := by omega
        obtain ⟨ak, k, hqk, habk, hk, hck⟩ := hok.k.get hjl
        have habk : ak.block < w.heap.size := habk
        rw [hqk]
        apply W.skip
        with_reducible apply At.next
        apply W.seq
        apply W.block
        apply W.seq
        apply W.reg
        apply OL.op; exact Guard.none; rfl; rfl; apply Pev.idx; rfl; exact yes; rfl; exact yes; rfl; rfl; intro hcond; omega
        apply OL.op; exact Guard.none; rfl; rfl; apply Pev.load_kept; rfl; exact yes; exact .head _; rfl; intro hcond; assumption; intro hcond; (rw [add_block]; assumption); intro hcond; simp only [add_block]; refine NotOwned.blk (by omega) ?_; refine NotOwned.blk (by omega) ?_; exact NotOwned.nil
        apply oas; rfl; rfl
        apply OL.nil
        with_reducible apply At.next
        apply W.seq
        apply W.seq
        apply W.reg
        apply omv; rfl; rfl
        apply obn; rfl; rfl; rfl; apply Bin.lss
        apply omv; rfl; rfl
        apply OL.op; exact Guard.no rfl rfl; rfl; rfl; apply Pev.move; rfl; exact yes
        apply OL.op; exact Guard.no rfl rfl; rfl; rfl; apply Pev.move; rfl; exact yes
        apply OL.op; exact Guard.no rfl rfl; rfl; rfl; apply Pev.bin; rfl; exact fun h => h; rfl; exact fun h => h; intro hcond; apply Bin.geq
        apply OL.op; exact Guard.none; rfl; rfl; apply Pev.pick_or; rfl; exact yes; rfl; exact fun h => h
        apply OL.nil
        with_reducible apply At.next
        refine W.cond rfl (fun hb => ?_) (fun hb => ?_)
        · apply W.seq
          apply W.reg
          apply oas; rfl; rfl
          apply OL.nil
          with_reducible apply At.next
          apply W.ret
          with_reducible apply At.then_ret
          with_reducible apply At.in_ret
          with_reducible apply At.then_ret
          with_reducible apply At.then_ret
          with_reducible apply At.in_ret
          with_reducible apply At.then_ret
          with_reducible apply At.in_ret
          with_reducible apply At.then_ret
          with_reducible apply At.then_ret
          with_reducible apply At.in_ret
          with_reducible apply At.then_ret
          ((with_reducible apply At.fin1); rfl; rfl; intro w' hw')
          refine ⟨by rw [treeE_bad (by omega)]; rintro ⟨_, hd, _⟩; have := hd i _ hpe k (List.mem_of_getElem? hk); simp at hb; omega, by (exact hw'.toExt (by (repeat (first | exact List.Mem.head _ | apply List.Mem.tail))) (fun k hk => by (focus ((try simp only [add_block]); (repeat (first | exact NotOwned.nil | exact hno _ (by omega) | refine NotOwned.nothing ?_ | refine NotOwned.nds (hlow _ (by omega)) ?_ | refine NotOwned.mapS (by omega) ?_ | apply NotOwned.bif | refine NotOwned.blk (by omega) ?_ | refine NotOwned.row (by omega) ?_ | refine NotOwned.grid (by assumption) (by omega) ?_ | refine NotOwned.pile (by omega) ?_ | refine NotOwned.pool (by omega) ?_ | refine NotOwned.mapI (by omega) ?_ | refine NotOwned.mapX (by omega) ?_ | refine NotOwned.itI (by omega) ?_)); done))))⟩
        obtain ⟨kn, rfl⟩ : ∃ kn : Nat, k = (kn : Int) := ⟨k.toNat, by simp at hb; omega⟩
        have hki : kn < i := by simp at hb; omega
        have hpk : (ints (pl e (kidsTo e i j)))[0 + (kn : Int).toNat * 1]? = some (.int .i64 ((kidsTo e i j).count (kn : Int) : Int)) := by
          have h1 := ints_get (pl_at (e := e) (l := kidsTo e i j) (k := kn) (by omega))
          simpa using h1
        have hcnt : (kidsTo e i j).count (kn : Int) ≤ 4096 * 140737488355328 := by
          have h1 := kidsTo_length (B := 140737488355328) (e := e) (i := i) (j := j) hkall hile
          have h2 := count_le_length (kidsTo e i j) (kn : Int)
          have h3 : (i + 1) * 140737488355328 ≤ 4096 * 140737488355328 := Nat.mul_le_mul_right _ (by omega)
          omega
        have hdk : (ints (dl e i (mx e p.1 j)))[0 + (kn : Int).toNat * 1]? = some (.int .i64 (high (grow e kn) : Int)) := by
          have h1 := ints_get (dl_low (e := e) (m := mx e p.1 j) hki (by omega))
          simpa using h1
        have hdi : (ints (dl e i (mx e p.1 j)))[0 + (i : Int).toNat * 1]? = some (.int .i64 (mx e p.1 j : Int)) := by
          have h1 := ints_get (dl_at (e := e) (m := mx e p.1 j) hile)
          simpa using h1
        apply W.skip
        with_reducible apply At.next
        apply W.seq
        apply W.reg
        apply omv; rfl; rfl
        apply omv; rfl; rfl
        apply OL.op; exact Guard.none; rfl; rfl; apply Pev.idxB; rfl; exact yes; rfl; exact yes; rfl; intro hcond; omega; rfl
        apply OL.op; exact Guard.none; rfl; rfl; apply Pev.load_blk; rfl; exact yes; exact .tail _ (.head _); rfl; assumption
        apply obn; rfl; rfl; rfl; apply Bin.add_in; omega
        apply OL.op; exact Guard.none; rfl; rfl; apply Pev.idxB; rfl; exact yes; rfl; exact yes; rfl; intro hcond; omega; rfl
        (apply OL.storeI); rfl; rfl; rfl; rfl; rfl; ((repeat (first | apply Swap.z | apply Swap.s))); (rw [ints_length, pl_length]; omega)
        have hset : (ints (pl e (kidsTo e i j))).set (0 + (kn : Int).toNat * 1) (.int .i64 (((kidsTo e i j).count (kn : Int) : Int) + 1)) = ints (pl e (kidsTo e i (j + 1))) := by
          rw [show 0 + (kn : Int).toNat * 1 = kn by simp, ints_set, pl_set (by omega), kidsTo_step hpe hk]
        rw [hset]
        apply OL.nil
        with_reducible apply At.next
        apply W.regq; apply Split.s rfl; apply Split.s rfl; apply Split.s rfl; apply Split.s rfl; apply Split.s rfl; apply Split.s rfl; apply Split.s rfl; apply Split.s rfl; apply Split.s rfl; apply Split.s rfl; apply Split.s rfl; apply Split.s rfl; exact Split.z rfl; kernel_rfl; decide +kernel; exact fun w hw => hw.drew
        apply qmv; rfl; rfl
        apply qmv; rfl; rfl
        apply qmv; rfl; rfl
        apply qmv; rfl; rfl
        apply QL.op; exact Guard.none; rfl; rfl; apply Pev.idxB; rfl; exact yes; rfl; exact yes; rfl; intro hcond; omega; rfl
        apply QL.op; exact Guard.none; rfl; rfl; apply Pev.load_blk; rfl; exact yes; exact .head _; rfl; assumption
        apply qmv; rfl; rfl
        apply qmv; rfl; rfl
        apply QL.op; exact Guard.none; rfl; rfl; apply Pev.idxB; rfl; exact yes; rfl; exact yes; rfl; intro hcond; omega; rfl
        apply QL.op; exact Guard.none; rfl; rfl; apply Pev.load_blk; rfl; exact yes; exact .head _; rfl; assumption
        apply QL.op; exact Guard.none; rfl; rfl; apply Pev.max2; rfl; exact yes; rfl; exact yes
        apply QL.op; exact Guard.none; rfl; rfl; apply Pev.idxB; rfl; exact yes; rfl; exact yes; rfl; intro hcond; omega; rfl
        with_reducible apply QL.tail
        (apply OL.storeI); rfl; rfl; rfl; rfl; rfl; ((repeat (first | apply Swap.z | apply Swap.s))); (rw [ints_length, dl_length]; omega)
        have hset2 : (ints (dl e i (mx e p.1 j))).set (0 + (i : Int).toNat * 1) (.int .i64 (if (mx e p.1 j : Int) < (high (grow e kn) : Int) then (high (grow e kn) : Int) else (mx e p.1 j : Int))) = ints (dl e i (mx e p.1 (j + 1))) := by
          rw [show 0 + (i : Int).toNat * 1 = i by simp, ints_set, maxIf, dl_set hile, mx_succ hk]
          rfl
        rw [hset2]
        apply OL.nil
        with_reducible apply At.in_normal
        with_reducible apply At.next
        apply W.reg
        apply obn; rfl; rfl; rfl; apply Bin.add_in; omega
        apply omv; rfl; rfl
        apply OL.nil
        refine At.again (j + 1) ⟨by omega, fun m k2 hm hk2 => ?_⟩ (by omega) (by (repeat (first | exact Sub.nil | apply Sub.cons rfl | (refine Sub.cons_eq rfl (congrArg (Value.int .i64) (by first | omega | (simp only; omega))) ?_)))) (fun w' hw' => by first | exact hw' | exact hw'.thin (by (repeat (first | exact Thin.nil | exact Thin.same | apply Thin.keep | (refine Thin.blk (by assumption) ?_) | (refine Thin.blk (by simp only [AllLe, and_true]; omega) ?_)))))
        by_cases em : m = j
        · subst em
          rw [hk] at hk2
          obtain rfl := Option.some.inj hk2
          omega
        · exact hks m k2 (by omega) hk2
      · obtain rfl : j = p.1.kids.length := by omega
        have hkall2 : ∀ k ∈ p.1.kids, 0 ≤ k ∧ k < (i : Int) := fun k hk => by
          obtain ⟨m, hm⟩ := List.getElem?_of_mem hk
          exact hks m k (List.getElem?_eq_some_iff.1 hm).1 hm
        have hmi : mx e p.1 p.1.kids.length ≤ i := mx_le (fun k hk => hkall2 k (List.mem_of_mem_take hk)) (fun k hk => high_le hdn k hk (by omega))
        have hhi := high_eq hpe hkall2
        have hdi : (ints (dl e i (mx e p.1 p.1.kids.length)))[0 + (i : Int).toNat * 1]? = some (.int .i64 (mx e p.1 p.1.kids.length : Int)) := by
          have h1 := ints_get (dl_at (e := e) (m := mx e p.1 p.1.kids.length) hile)
          simpa using h1
        apply W.exit
        with_reducible apply At.then_exit
        with_reducible apply At.then_exit
        with_reducible apply At.in_exit
        with_reducible apply At.next
        apply W.reg
        apply omv; rfl; rfl
        apply omv; rfl; rfl
        apply OL.op; exact Guard.none; rfl; rfl; apply Pev.idxB; rfl; exact yes; rfl; exact yes; rfl; intro hcond; omega; rfl
        apply OL.op; exact Guard.none; rfl; rfl; apply Pev.load_blk; rfl; exact yes; exact .head _; rfl; assumption
        apply obn; rfl; rfl; rfl; apply Bin.add_in; omega
        apply OL.op; exact Guard.none; rfl; rfl; apply Pev.idxB; rfl; exact yes; rfl; exact yes; rfl; intro hcond; omega; rfl
        (apply OL.storeI); rfl; rfl; rfl; rfl; rfl; ((repeat (first | apply Swap.z | apply Swap.s))); (rw [ints_length, dl_length]; omega)
        have hset3 : (ints (dl e i (mx e p.1 p.1.kids.length))).set (0 + (i : Int).toNat * 1) (.int .i64 ((mx e p.1 p.1.kids.length : Int) + 1)) = ints (dl e (i + 1) 0) := by
          rw [show 0 + (i : Int).toNat * 1 = i by simp, ints_set, show ((mx e p.1 p.1.kids.length : Int) + 1) = ((mx e p.1 p.1.kids.length + 1 : Nat) : Int) by omega, dl_set hile, ← hhi, dl_next hile rfl]
        rw [hset3, ← kidsTo_next hpe]
        apply OL.nil
        with_reducible apply At.in_normal
        with_reducible apply At.next
        apply W.reg
        apply obn; rfl; rfl; rfl; apply Bin.add_in; omega
        apply omv; rfl; rfl
        apply OL.nil
        refine At.again (i + 1) ⟨by omega, fun m x2 hm hx2 => ?_⟩ (by omega) (by (repeat (first | exact Sub.nil | apply Sub.cons rfl | (refine Sub.cons_eq rfl (congrArg (Value.int .i64) (by first | omega | (simp only; omega))) ?_)))) (fun w' hw' => hw')
        by_cases em : m = i
        · subst em
          rw [hpe] at hx2
          obtain rfl := Option.some.inj hx2
          exact hkall2
        · exact hdn m x2 (by omega) hx2
    · obtain rfl : i = es.length := by omega
      have hdown : Down e := fun j x hx => hdn j x (by have := (List.getElem?_eq_some_iff.1 hx).1; omega) hx
      have hkt : kidsTo e es.length 0 = kidsAll e := by rw [← hel, kidsTo_end]
      rw [hkt]
      have hlast : (kidsAll e).count ((e.length - 1 : Nat) : Int) = 0 := by
        refine List.count_eq_zero.2 fun hm => ?_
        obtain ⟨p, x, hx, hk⟩ := mem_kidsAll.1 hm
        have h1 := hdown p x hx _ hk
        have h2 := (List.getElem?_eq_some_iff.1 hx).1
        omega
      apply W.exit
      with_reducible apply At.then_exit
      with_reducible apply At.then_exit
      with_reducible apply At.in_exit
      with_reducible apply At.next
      apply W.seq
      apply W.seq
      apply W.reg
      apply omv; rfl; rfl
      apply OL.op; exact Guard.none; rfl; rfl; apply Pev.len_slice; rfl; exact yes; rfl
      apply omv; rfl; rfl
      apply OL.nil
      with_reducible apply At.next
      apply W.block
      refine W.loop (G := Nat) (fun i => i ≤ es.length ∧ ∀ j : Nat, j < i → j + 1 < e.length → (kidsAll e).count (j : Int) = 1) (fun i => es.length - i)
        (fun i => [(0, true, .slice q es.length cap), (3, true, .slice (some ⟨bd, 0, none⟩) es.length es.length), (70, true, .slice (some ⟨bp, 0, none⟩) es.length es.length), (71, true, .int .i64 (es.length : Int)), (72, true, .int .i64 (i : Int))])
        (fun i => Cls [blk bd 3 (ints (dl e es.length 0)), blk bp 3 (ints (pl e (kidsAll e)))] [w]) 0 ⟨by omega, fun j hj => by omega⟩ (by (repeat (first | exact Sub.nil | apply Sub.cons rfl | (refine Sub.cons_eq rfl (congrArg (Value.int .i64) (by first | omega | (simp only; omega))) ?_)))) (fun w' hw' => hw') ?_
      rintro j ⟨hj, hone⟩
      apply W.seq
      apply W.reg
      apply obn; rfl; rfl; rfl; apply Bin.lss
      apply OL.nil
      with_reducible apply At.next
      apply W.seq
      (refine W.cond rfl (fun hlt2 => ?_) (fun hlt2 => ?_)) <;> (try (simp only [Bool.and_eq_true, Bool.or_eq_true, Bool.not_eq_true', Bool.and_eq_false_iff, Bool.or_eq_false_iff, Bool.not_eq_false', decide_eq_true_eq, decide_eq_false_iff_not, Int.not_lt, Int.not_le] at hlt2)) <;> (try (exfalso; first | omega | exact hlt2 trivial | contradiction))
      · have hjl : j < es.length := by omega
        have hpj : (ints (pl e (kidsAll e)))[0 + (j : Int).toNat * 1]? = some (.int .i64 ((kidsAll e).count (j : Int) : Int)) := by
          have h1 := ints_get (pl_at (e := e) (l := kidsAll e) (k := j) (by omega))
          simpa using h1
        have hpj2 : (ints (pl e (kidsAll e)))[0 + j * 1]? = some (.int .i64 ((kidsAll e).count (j : Int) : Int)) := hpj
        apply W.skip
        with_reducible apply At.next
        apply W.seq
        apply W.block
        apply W.seq
        apply W.reg
        apply omv; rfl; rfl
        apply OL.op; exact Guard.none; rfl; rfl; apply Pev.idxB; rfl; exact yes; rfl; exact yes; rfl; intro hcond; omega; rfl
        apply OL.op; exact Guard.none; rfl; rfl; apply Pev.load_blk; rfl; exact yes; exact .tail _ (.head _); rfl; assumption
        apply oas; rfl; rfl
        apply oas; rfl; rfl
        apply OL.nil
        with_reducible apply At.next
        apply W.seq
        apply W.reg
        apply omv; rfl; rfl
        apply obn; rfl; rfl; rfl; apply Bin.eql
        apply omv; rfl; rfl
        apply omv; rfl; rfl
        apply OL.op; exact Guard.none; rfl; rfl; apply Pev.len_slice; rfl; exact yes; rfl
        apply obn; rfl; rfl; rfl; apply Bin.sub_in; omega
        apply obn; rfl; rfl; rfl; apply Bin.lss
        apply obn; rfl; rfl; rfl; apply Bin.bool_neq; rfl
        apply OL.nil
        with_reducible apply At.next
        refine W.cond rfl (fun hb => ?_) (fun hb => ?_)
        · apply W.seq
          apply W.reg
          apply oas; rfl; rfl
          apply OL.nil
          with_reducible apply At.next
          apply W.ret
          with_reducible apply At.in_ret
          with_reducible apply At.then_ret
          with_reducible apply At.then_ret
          with_reducible apply At.in_ret
          with_reducible apply At.then_ret
          ((with_reducible apply At.fin1); rfl; rfl; intro w' hw')
          refine ⟨?_, by (exact hw'.toExt (by (repeat (first | exact List.Mem.head _ | apply List.Mem.tail))) (fun k hk => by (focus ((try simp only [add_block]); (repeat (first | exact NotOwned.nil | exact hno _ (by omega) | refine NotOwned.nothing ?_ | refine NotOwned.nds (hlow _ (by omega)) ?_ | refine NotOwned.mapS (by omega) ?_ | apply NotOwned.bif | refine NotOwned.blk (by omega) ?_ | refine NotOwned.row (by omega) ?_ | refine NotOwned.grid (by assumption) (by omega) ?_ | refine NotOwned.pile (by omega) ?_ | refine NotOwned.pool (by omega) ?_ | refine NotOwned.mapI (by omega) ?_ | refine NotOwned.mapX (by omega) ?_ | refine NotOwned.itI (by omega) ?_)); done))))⟩
          rw [treeE_bad (by omega)]
          rintro ⟨_, _, h1⟩
          by_cases hjl2 : j + 1 < e.length
          · have := h1 j hjl2
            rw [this] at hb
            simp at hb
            omega
          · have : j = e.length - 1 := by omega
            subst this
            rw [hlast] at hb
            simp at hb
            omega
        · apply W.skip
          with_reducible apply At.in_normal
          with_reducible apply At.next
          apply W.reg
          apply obn; rfl; rfl; rfl; apply Bin.add_in; omega
          apply omv; rfl; rfl
          apply OL.nil
          refine At.again (j + 1) ⟨by omega, fun m hm hml => ?_⟩ (by omega) (by (repeat (first | exact Sub.nil | apply Sub.cons rfl | (refine Sub.cons_eq rfl (congrArg (Value.int .i64) (by first | omega | (simp only; omega))) ?_)))) (fun w' hw' => hw')
          by_cases em : m = j
          · subst em
            simp at hb
            omega
          · exact hone m (by omega) hml
      · obtain rfl : j = es.length := by omega
        have hdr : (ints (dl e es.length 0))[0 + ((es.length : Int) - 1).toNat * 1]? = some (.int .i64 (high (grow e (e.length - 1)) : Int)) := by
          have h1 := ints_get (dl_low (e := e) (i := es.length) (m := 0) (k := e.length - 1) (by omega) (by omega))
          rw [show 0 + ((es.length : Int) - 1).toNat * 1 = e.length - 1 by omega]
          exact h1
        have hok := treeE_ok (e := e) (by omega) (by omega) hdown (fun i hi => hone i (by omega) hi)
        apply W.exit
        with_reducible apply At.then_exit
        with_reducible apply At.then_exit
        with_reducible apply At.in_exit
        with_reducible apply At.next
        apply W.seq
        apply W.seq
        apply W.reg
        apply omv; rfl; rfl
        apply omv; rfl; rfl
        apply OL.op; exact Guard.none; rfl; rfl; apply Pev.len_slice; rfl; exact yes; rfl
        apply obn; rfl; rfl; rfl; apply Bin.sub_in; omega
        apply OL.op; exact Guard.none; rfl; rfl; apply Pev.idxB; rfl; exact yes; rfl; exact yes; rfl; intro hcond; omega; rfl
        apply OL.op; exact Guard.none; rfl; rfl; apply Pev.load_blk; rfl; exact yes; exact .head _; rfl; assumption
        apply obn; rfl; rfl; rfl; apply Bin.gtr
        apply OL.nil
        with_reducible apply At.next
        refine W.cond rfl (fun hb => ?_) (fun hb => ?_)
        · apply W.seq
          apply W.reg
          apply oas; rfl; rfl
          apply OL.nil
          with_reducible apply At.next
          apply W.ret
          with_reducible apply At.then_ret
          ((with_reducible apply At.fin1); rfl; rfl; intro w' hw')
          exact ⟨by rw [hok, if_pos]; simp at hb; omega, by (exact hw'.toExt (by (repeat (first | exact List.Mem.head _ | apply List.Mem.tail))) (fun k hk => by (focus ((try simp only [add_block]); (repeat (first | exact NotOwned.nil | exact hno _ (by omega) | refine NotOwned.nothing ?_ | refine NotOwned.nds (hlow _ (by omega)) ?_ | refine NotOwned.mapS (by omega) ?_ | apply NotOwned.bif | refine NotOwned.blk (by omega) ?_ | refine NotOwned.row (by omega) ?_ | refine NotOwned.grid (by assumption) (by omega) ?_ | refine NotOwned.pile (by omega) ?_ | refine NotOwned.pool (by omega) ?_ | refine NotOwned.mapI (by omega) ?_ | refine NotOwned.mapX (by omega) ?_ | refine NotOwned.itI (by omega) ?_)); done))))⟩
        · apply W.skip
          with_reducible apply At.next
          apply W.seq
          apply W.reg
          apply oas; rfl; rfl
          apply OL.nil
          with_reducible apply At.next
          apply W.ret
          ((with_reducible apply At.fin1); rfl; rfl; intro w' hw')
          exact ⟨by rw [hok, if_neg]; simp at hb; omega, by (exact hw'.toExt (by (repeat (first | exact List.Mem.head _ | apply List.Mem.tail))) (fun k hk => by (focus ((try simp only [add_block]); (repeat (first | exact NotOwned.nil | exact hno _ (by omega) | refine NotOwned.nothing ?_ | refine NotOwned.nds (hlow _ (by omega)) ?_ | refine NotOwned.mapS (by omega) ?_ | apply NotOwned.bif | refine NotOwned.blk (by omega) ?_ | refine NotOwned.row (by omega) ?_ | refine NotOwned.grid (by assumption) (by omega) ?_ | refine NotOwned.pile (by omega) ?_ | refine NotOwned.pool (by omega) ?_ | refine NotOwned.mapI (by omega) ?_ | refine NotOwned.mapX (by omega) ?_ | refine NotOwned.itI (by omega) ?_)); done))))⟩
end Go.Proofs.YtlboppiogeaicaaDoor.co
