/- The walk of the printer's Check. Conditions: none. (Printed by pke.py.) -/
import Derived.Test.YtlcclcakdfmgkaaPkD
import Derived.Test.YtlcclcakdfmgkaaPkM
import Derived.Test.YtlcclcakdfmgkaaAny
namespace Go.Proofs.Ytlcclcakdfmgkaa.pk
open Go.RowKit Go.Eng Go.Pk
set_option linter.unusedVariables false
set_option linter.unusedSimpArgs false
set_option maxRecDepth 100000

structure XC (B : Nat) where
  b2 : Nat
  hb2 : B ≤ b2
  b5 : Nat
  hb5 : B ≤ b5
  old : Nat → Value
structure KY where
  j : Nat
  O : Nat → Prop
  qk : Option Addr
  ck : Nat
theorem kid_ok {t : List Nk} {i : Nat} {kids : List Int} (hg : GoodN t i) (hi : i ≤ t.length) (hk : ∀ k ∈ kids, 0 ≤ k ∧ k < (i : Int)) : ∀ s ∈ kids, KidOK t s := fun s hs => by
  obtain ⟨h1, h2⟩ := hk s hs
  refine ⟨h1, by omega, fun v hv h19 => ?_⟩
  obtain ⟨k2, e, h3, h4, _⟩ := field_kid (hg s.toNat v (by omega) hv) h19
  exact ⟨k2, [], e, h3, by omega⟩
set_option maxHeartbeats 1000000 in
theorem Check_calls (t : List Nk) (q : Option Addr) (cap : Nat) (w : World) (hlen : t.length ≤ 300) (hn : NodesAt w q t) :
    Calls Try.prog 22 #[.slice q t.length cap] w fun e w' => e = .returned (.int .i64 (treeE t)) ∧ Ext w w' := by
  refine enter Try.func22 rfl Try.ntmps22 rfl (Cls.start w) ?_
  (simp only [argEnv, Nat.zero_add, Nat.reduceAdd])
  apply W.seq
  apply W.reg
  apply oas; rfl; rfl
  apply OL.nil
  with_reducible apply At.next
  apply W.seq
  apply W.block
  apply W.seq
  apply W.reg
  apply omv; rfl; rfl
  apply OL.op; exact Guard.none; rfl; rfl; apply Pev.len_slice; rfl; exact yes; rfl
  apply obn; rfl; rfl; rfl; apply Bin.gtr
  apply oas; rfl; rfl
  apply OL.nil
  with_reducible apply At.next
  (refine W.cond rfl (fun h4 => ?_) (fun h4 => ?_)) <;> (try (simp only [Bool.and_eq_true, Bool.or_eq_true, Bool.not_eq_true', Bool.and_eq_false_iff, Bool.or_eq_false_iff, Bool.not_eq_false', decide_eq_true_eq, decide_eq_false_iff_not, Int.not_lt, Int.not_le] at h4)) <;> (try (exfalso; first | omega | exact h4 trivial | contradiction))
  by_cases h0 : t.length = 0
  · have ht : treeE t = 3 := by unfold treeE; rw [if_pos (.inl h0)]
    obtain rfl : t = [] := List.eq_nil_of_length_eq_zero h0
    apply W.seq
    apply W.reg
    apply omv; rfl; rfl
    apply OL.op; exact Guard.none; rfl; rfl; apply Pev.len_slice; rfl; exact yes; rfl
    apply obn; rfl; rfl; rfl; apply Bin.eql
    apply omv; rfl; rfl
    apply OL.op; exact Guard.no rfl rfl; rfl; rfl; apply Pev.move; rfl; exact yes
    apply OL.op; exact Guard.no rfl rfl; rfl; rfl; apply Pev.move; rfl; exact yes
    apply OL.op; exact Guard.no rfl rfl; rfl; rfl; apply Pev.len_slice; rfl; exact fun h => h; rfl
    apply OL.op; exact Guard.no rfl rfl; rfl; rfl; apply Pev.bin; rfl; exact fun h => h; rfl; exact yes; intro hcond; apply Bin.sub_in; omega
    apply OL.gateOff; exact Guard.no rfl rfl; rfl; rfl
    apply OL.gateOff; exact Guard.no rfl rfl; rfl; rfl
    apply OL.gateOff; exact Guard.no rfl rfl; rfl; rfl
    apply OL.gateOff; exact Guard.no rfl rfl; rfl; rfl
    apply OL.op; exact Guard.none; rfl; rfl; apply Pev.pick_on; rfl; exact yes; (intro hcond; rfl); rfl; exact yes
    apply oas; rfl; rfl
    apply OL.nil
    with_reducible apply At.next
    refine W.cond rfl (fun hb => ?_) (fun hb => by simp at hb)
    apply W.seq
    apply W.reg
    apply oas; rfl; rfl
    apply OL.nil
    with_reducible apply At.next
    apply W.ret
    with_reducible apply At.in_ret
    with_reducible apply At.then_ret
    ((with_reducible apply At.fin1); rfl; rfl; intro w' hw')
    exact ⟨by rw [ht], by (exact hw'.toExt (by (repeat (first | exact List.Mem.head _ | apply List.Mem.tail))) (fun k hk => by (focus ((try simp only [add_block]); (repeat (first | exact NotOwned.nil | exact hno _ (by omega) | refine NotOwned.nothing ?_ | refine NotOwned.nds (hlow _ (by omega)) ?_ | refine NotOwned.mapS (by omega) ?_ | apply NotOwned.bif | refine NotOwned.blk (by omega) ?_ | refine NotOwned.row (by omega) ?_ | refine NotOwned.grid (by assumption) (by omega) ?_)); done))))⟩
  obtain ⟨ul, hul⟩ : ∃ u, t[t.length - 1]? = some u := ⟨_, List.getElem?_eq_getElem (by omega)⟩
  obtain ⟨a, rfl, hab, hcl, _, _⟩ := node_at hn hul
  have hcl' : CellsAt w (a.add (((t.length : Int) - 1).toNat * 6)) (nc ul) := by rw [show ((t.length : Int) - 1).toNat = t.length - 1 by omega]; exact hcl
  have hlk : lastK t = ul.kind := kd_get (by rw [show ((t.length : Int) - 1).toNat = t.length - 1 by omega]; exact hul)
  have hfl := flat_len (B := 17592186043904) fun u hu => by have := (hn.kid u hu).1; omega
  clear hcl
  apply W.seq
  apply W.reg
  apply omv; rfl; rfl
  apply OL.op; exact Guard.none; rfl; rfl; apply Pev.len_slice; rfl; exact yes; rfl
  apply obn; rfl; rfl; rfl; apply Bin.eql
  apply omv; rfl; rfl
  apply OL.op; exact Guard.no rfl rfl; rfl; rfl; apply Pev.move; rfl; exact yes
  apply OL.op; exact Guard.no rfl rfl; rfl; rfl; apply Pev.move; rfl; exact yes
  apply OL.op; exact Guard.no rfl rfl; rfl; rfl; apply Pev.len_slice; rfl; exact fun h => h; rfl
  apply OL.op; exact Guard.no rfl rfl; rfl; rfl; apply Pev.bin; rfl; exact fun h => h; rfl; exact yes; intro hcond; apply Bin.sub_in; omega
  apply OL.op; exact Guard.no rfl rfl; rfl; rfl; apply Pev.idxI; rfl; exact fun h => h; rfl; exact fun h => h; rfl; intro hcond; omega
  apply OL.op; exact Guard.no rfl rfl; rfl; rfl; apply Pev.fldA; rfl; exact fun h => h; rfl
  apply OL.op; exact Guard.no rfl rfl; rfl; rfl; apply Pev.load_kept; rfl; exact fun h => h; exact .head _; rfl; intro hcond; apply CellsAt.at_ (by assumption) rfl; intro hcond; (simp only [add_block]; assumption); intro hcond; exact NotOwned.nil
  apply OL.op; exact Guard.no rfl rfl; rfl; rfl; apply Pev.bin; rfl; exact fun h => h; rfl; exact yes; intro hcond; apply Bin.neq
  apply OL.op; exact Guard.none; rfl; rfl; apply Pev.pick_or; rfl; exact yes; rfl; exact fun h => h
  apply oas; rfl; rfl
  apply OL.nil
  with_reducible apply At.next
  refine W.cond rfl (fun hb => ?_) (fun hb => ?_)
  · have ht : treeE t = 3 := by
      unfold treeE; rw [if_pos (.inr (by rw [hlk]; simp at hb; rcases hb with h | h; exact absurd (by rw [h]; rfl) h0; exact h))]
    apply W.seq
    apply W.reg
    apply oas; rfl; rfl
    apply OL.nil
    with_reducible apply At.next
    apply W.ret
    with_reducible apply At.in_ret
    with_reducible apply At.then_ret
    ((with_reducible apply At.fin1); rfl; rfl; intro w' hw')
    exact ⟨by rw [ht], by (exact hw'.toExt (by (repeat (first | exact List.Mem.head _ | apply List.Mem.tail))) (fun k hk => by (focus ((try simp only [add_block]); (repeat (first | exact NotOwned.nil | exact hno _ (by omega) | refine NotOwned.nothing ?_ | refine NotOwned.nds (hlow _ (by omega)) ?_ | refine NotOwned.mapS (by omega) ?_ | apply NotOwned.bif | refine NotOwned.blk (by omega) ?_ | refine NotOwned.row (by omega) ?_ | refine NotOwned.grid (by assumption) (by omega) ?_)); done))))⟩
  · have hul0 : ul.kind = 0 := by simp at hb; exact hb.2
    have ht := tree_unf h0 (by rw [hlk]; exact hul0)
    clear hcl' hlk
    apply W.skip
    with_reducible apply At.in_normal
    with_reducible apply At.next
    apply W.seq
    refine W.regany (X := XC w.heap.size) (fun x e => [(4, true, bif e 7 then .slice (some ⟨x.b5, 0, none⟩) t.length t.length else x.old 4), (3, true, bif e 6 then .slice (some ⟨x.b2, 0, none⟩) t.length t.length else x.old 3), (35, true, bif e 5 then .slice (some ⟨x.b5, 0, none⟩) t.length t.length else x.old 35), (34, true, bif e 4 then .int .i64 (t.length : Int) else x.old 34), (33, true, bif e 3 then .slice (some a) t.length cap else x.old 33), (32, true, bif e 2 then .slice (some ⟨x.b2, 0, none⟩) t.length t.length else x.old 32), (31, true, bif e 1 then .int .i64 (t.length : Int) else x.old 31), (30, true, bif e 0 then .slice (some a) t.length cap else x.old 30), (0, true, .slice (some a) t.length cap)])
      (fun x e => (bif e 5 then blk x.b5 3 (List.replicate t.length (.int .i64 0)) else nothing) :: (bif e 2 then blk x.b2 3 (List.replicate t.length (.int .i64 0)) else nothing) :: [])
      (fun old => ⟨w.heap.size, Nat.le_refl _, w.heap.size, Nat.le_refl _, old⟩) (by kernel_rfl) (by kernel_rfl) (fun w hw => hw.drew) (fun old => by repeat (first | exact SubO.nil | apply SubO.cons rfl | refine SubO.old rfl ?_)) (fun old w' hw' => hw'.nothing_cons.nothing_cons) ?_ ?_
    · intro x e i o ho hei hd hcl
      have hi : i < 8 := (List.getElem?_eq_some_iff.1 ho).1
      obtain rfl | rfl | rfl | rfl | rfl | rfl | rfl | rfl : i = 0 ∨ i = 1 ∨ i = 2 ∨ i = 3 ∨ i = 4 ∨ i = 5 ∨ i = 6 ∨ i = 7 := by omega
      · cases ho
        have v0 : Eng.upd e 0 0 = true := upd_eq
        simp only [hei, cond_true, cond_false]
        apply omv; rfl; rfl
        apply OL.nil
        exact At.beside x (by repeat (first | exact Sub.nil | apply Sub.cons rfl | refine Sub.cons_eq rfl (by simp only [v0, cond_true, cond_false]) ?_)) (fun w' hw' => by first | exact hw' | (simp only [v0, cond_true, cond_false]; exact hw'))
      · cases ho
        have h0 : e 0 = true := hd ⟨0, .data⟩ (by simp) rfl
        have v1 : Eng.upd e 1 1 = true := upd_eq
        have v0 : Eng.upd e 1 0 = true := upd_mono h0
        simp only [hei, h0, cond_true, cond_false]
        apply OL.op; exact Guard.none; rfl; rfl; apply Pev.len_slice; rfl; exact yes; rfl
        apply OL.nil
        exact At.beside x (by repeat (first | exact Sub.nil | apply Sub.cons rfl | refine Sub.cons_eq rfl (by simp only [v1, v0, cond_true, cond_false]) ?_)) (fun w' hw' => by first | exact hw' | (simp only [v1, v0, cond_true, cond_false]; exact hw'))
      · cases ho
        have h1 : e 1 = true := hd ⟨1, .data⟩ (by simp) rfl
        have h6 : e 6 = false := hcl.not (i := 2) (j := 6) rfl hei (by kernel_rfl)
        have v2 : Eng.upd e 2 2 = true := upd_eq
        have v1 : Eng.upd e 2 1 = true := upd_mono h1
        have v6 : Eng.upd e 2 6 = false := h6
        simp only [hei, h1, h6, cond_true, cond_false]
        apply OL.makeSlice; rfl; rfl; rfl; rfl; rfl; rfl; rfl; omega; (intro bk hbk; simp only [AllLe, and_true] at hbk)
        apply OL.nil
        exact At.beside { x with b2 := bk, hb2 := hbk } (by repeat (first | exact Sub.nil | apply Sub.cons rfl | refine Sub.cons_eq rfl (by simp only [v2, v1, v6, cond_true, cond_false]) ?_)) (fun w' hw' => by simp only [v2, v1, v6, cond_true, cond_false]; exact Cls.fill (p := 1) (H := _) (.s .z) hw')
      · cases ho
        have v3 : Eng.upd e 3 3 = true := upd_eq
        simp only [hei, cond_true, cond_false]
        apply omv; rfl; rfl
        apply OL.nil
        exact At.beside x (by repeat (first | exact Sub.nil | apply Sub.cons rfl | refine Sub.cons_eq rfl (by simp only [v3, cond_true, cond_false]) ?_)) (fun w' hw' => by first | exact hw' | (simp only [v3, cond_true, cond_false]; exact hw'))
      · cases ho
        have h3 : e 3 = true := hd ⟨3, .data⟩ (by simp) rfl
        have v4 : Eng.upd e 4 4 = true := upd_eq
        have v3 : Eng.upd e 4 3 = true := upd_mono h3
        simp only [hei, h3, cond_true, cond_false]
        apply OL.op; exact Guard.none; rfl; rfl; apply Pev.len_slice; rfl; exact yes; rfl
        apply OL.nil
        exact At.beside x (by repeat (first | exact Sub.nil | apply Sub.cons rfl | refine Sub.cons_eq rfl (by simp only [v4, v3, cond_true, cond_false]) ?_)) (fun w' hw' => by first | exact hw' | (simp only [v4, v3, cond_true, cond_false]; exact hw'))
      · cases ho
        have h4 : e 4 = true := hd ⟨4, .data⟩ (by simp) rfl
        have h7 : e 7 = false := hcl.not (i := 5) (j := 7) rfl hei (by kernel_rfl)
        have v5 : Eng.upd e 5 5 = true := upd_eq
        have v4 : Eng.upd e 5 4 = true := upd_mono h4
        have v7 : Eng.upd e 5 7 = false := h7
        simp only [hei, h4, h7, cond_true, cond_false]
        apply OL.makeSlice; rfl; rfl; rfl; rfl; rfl; rfl; rfl; omega; (intro bk hbk; simp only [AllLe, and_true] at hbk)
        apply OL.nil
        exact At.beside { x with b5 := bk, hb5 := hbk } (by repeat (first | exact Sub.nil | apply Sub.cons rfl | refine Sub.cons_eq rfl (by simp only [v5, v4, v7, cond_true, cond_false]) ?_)) (fun w' hw' => by simp only [v5, v4, v7, cond_true, cond_false]; exact Cls.fill (p := 0) (H := _) .z hw')
      · cases ho
        have h2 : e 2 = true := hd ⟨2, .data⟩ (by simp) rfl
        have v6 : Eng.upd e 6 6 = true := upd_eq
        have v2 : Eng.upd e 6 2 = true := upd_mono h2
        simp only [hei, h2, cond_true, cond_false]
        apply oas; rfl; rfl
        apply OL.nil
        exact At.beside x (by repeat (first | exact Sub.nil | apply Sub.cons rfl | refine Sub.cons_eq rfl (by simp only [v6, v2, cond_true, cond_false]) ?_)) (fun w' hw' => by first | exact hw' | (simp only [v6, v2, cond_true, cond_false]; exact hw'))
      · cases ho
        have h5 : e 5 = true := hd ⟨5, .data⟩ (by simp) rfl
        have v7 : Eng.upd e 7 7 = true := upd_eq
        have v5 : Eng.upd e 7 5 = true := upd_mono h5
        simp only [hei, h5, cond_true, cond_false]
        apply oas; rfl; rfl
        apply OL.nil
        exact At.beside x (by repeat (first | exact Sub.nil | apply Sub.cons rfl | refine Sub.cons_eq rfl (by simp only [v7, v5, cond_true, cond_false]) ?_)) (fun w' hw' => by first | exact hw' | (simp only [v7, v5, cond_true, cond_false]; exact hw'))
    · intro x e hall
      have hx2 := x.hb2
      have hx5 := x.hb5
      simp only [hall 0 (by decide), hall 1 (by decide), hall 2 (by decide), hall 3 (by decide), hall 4 (by decide), hall 5 (by decide), hall 6 (by decide), hall 7 (by decide), cond_true, cond_false]
      with_reducible apply At.next
      apply W.seq
      apply W.seq
      apply W.reg
      apply omv; rfl; rfl
      apply OL.op; exact Guard.none; rfl; rfl; apply Pev.len_slice; rfl; exact yes; rfl
      apply omv; rfl; rfl
      apply OL.nil
      with_reducible apply At.next
      apply W.block
      refine W.loop (G := Nat) (fun i => i ≤ t.length ∧ GoodN t i ∧ errF t (t.drop i) i = errF t t 0) (fun i => t.length - i)
        (fun i => [(0, true, .slice (some a) t.length cap), (3, true, .slice (some ⟨x.b2, 0, none⟩) t.length t.length), (4, true, .slice (some ⟨x.b5, 0, none⟩) t.length t.length), (36, true, .slice (some a) t.length cap), (37, true, .int .i64 (t.length : Int)), (38, true, .int .i64 (i : Int))])
        (fun i => Cls [blk x.b5 3 (ins (dps t i ++ List.replicate (t.length - i) 0)), blk x.b2 3 (ins (us t.length (flat (t.take i))))] [w]) 0 ⟨by omega, GoodN.zero t, rfl⟩ (by (repeat (first | exact Sub.nil | apply Sub.cons rfl | (refine Sub.cons_eq rfl (congrArg (Value.int .i64) (by first | omega | (simp only; omega))) ?_)))) (fun w' hw' => by rw [dps0, us0]; exact hw') ?_
      rintro i ⟨hi, hg, hrest⟩
      apply W.seq
      apply W.reg
      apply obn; rfl; rfl; rfl; apply Bin.lss
      apply OL.nil
      with_reducible apply At.next
      apply W.seq
      (refine W.cond rfl (fun hlt => ?_) (fun hlt => ?_)) <;> (try (simp only [Bool.and_eq_true, Bool.or_eq_true, Bool.not_eq_true', Bool.and_eq_false_iff, Bool.or_eq_false_iff, Bool.not_eq_false', decide_eq_true_eq, decide_eq_false_iff_not, Int.not_lt, Int.not_le] at hlt)) <;> (try (exfalso; first | omega | exact hlt trivial | contradiction))
      · have hil : i < t.length := by omega
        obtain ⟨u, hu⟩ : ∃ u, t[i]? = some u := ⟨_, List.getElem?_eq_getElem hil⟩
        obtain ⟨a', ea, _, hc, hkl, hks⟩ := node_at hn hu
        cases ea
        rw [errF_get hu] at hrest
        have hlast : i + 1 = t.length → u.kind = 0 := fun h => by
          rw [show t.length - 1 = i by omega, hu] at hul
          cases hul; exact hul0
        have hfi : (flat (t.take i)).length ≤ 42221246506598400 := by
          have h1 := flat_len (t := t.take i) (B := 17592186043904) fun u hu => by have := (hn.kid u (List.mem_of_mem_take hu)).1; omega
          have h2 : (t.take i).length ≤ 300 := by rw [List.length_take]; omega
          have h3 := Nat.mul_le_mul_right 17592186043904 h2
          omega
        rw [dl_start hil]
        obtain ⟨kind, text, nn, kids, kq, kcap, line, col⟩ := u
        simp only at hkl hks hlast
        simp only [nc] at hc
        apply W.skip
        with_reducible apply At.next
        apply W.seq
        apply W.block
        apply W.seq
        apply W.reg
        apply omv; rfl; rfl
        apply OL.op; exact Guard.none; rfl; rfl; apply Pev.idx; rfl; exact yes; rfl; exact yes; rfl; rfl; intro hcond; omega
        apply OL.op; exact Guard.none; rfl; rfl; apply Pev.load_keptA; rfl; exact yes; exact .head _; rfl; intro hcond; assumption; rfl; intro hcond; (rw [add_block]; assumption); intro hcond; simp only [add_block]; refine NotOwned.blk (by omega) ?_; refine NotOwned.blk (by omega) ?_; exact NotOwned.nil
        apply OL.alloc; rfl; rfl; exact CellsL.agg; (intro bk hbk; simp only [AllLe, and_true] at hbk)
        apply oas; rfl; rfl
        apply OL.storeB; rfl; rfl; exact CellsL.agg; rfl; rfl; rfl; apply Swap.z; apply Put.here; apply Over.cons; apply Over.cons; apply Over.cons; apply Over.cons; apply Over.cons; apply Over.cons; apply Over.nil
        apply OL.nil
        with_reducible apply At.next
        apply W.seq
        apply W.reg
        apply oas; rfl; rfl
        apply OL.nil
        with_reducible apply At.next
        apply W.seq
        apply W.seq
        apply W.reg
        apply ofa; rfl; rfl; rfl
        apply old; rfl; rfl; exact .head _; rfl; rfl
        apply OL.op; exact Guard.none; rfl; rfl; apply Pev.len_slice; rfl; exact yes; rfl
        apply omv; rfl; rfl
        apply OL.nil
        with_reducible apply At.next
        apply W.block
        revert bk
        intro b6 hb6
        refine W.loop (G := KY) (fun y => y.j ≤ kids.length ∧ ∀ k ∈ kids.take y.j, 0 ≤ k ∧ k < (i : Int)) (fun y => kids.length - y.j)
          (fun y => [(0, true, .slice (some a) t.length cap), (3, true, .slice (some ⟨x.b2, 0, none⟩) t.length t.length), (4, true, .slice (some ⟨x.b5, 0, none⟩) t.length t.length), (5, true, .int .i64 (i : Int)), (6, true, .pointer (some ⟨b6, 0, none⟩)), (7, true, .slice y.qk y.j y.ck), (36, true, .slice (some a) t.length cap), (37, true, .int .i64 (t.length : Int)), (38, true, .int .i64 (i : Int)), (44, true, .slice kq kids.length kcap), (45, true, .int .i64 (kids.length : Int)), (46, true, .int .i64 (y.j : Int))])
          (fun y => Cls [row w.heap.size y.O y.qk y.j y.ck 3 1 (ins ((kids.take y.j).map (kd t))), blk b6 60 [.int .i64 kind, .string text, .int .i64 nn, .slice kq kids.length kcap, .int .i64 line, .int .i64 col], blk x.b5 3 (ins (dl t i (mx (dps t i) (kids.take y.j) 0) t.length)), blk x.b2 3 (ins (us t.length (flat (t.take i) ++ kids.take y.j)))] [w]) ⟨0, fun _ => False, none, 0⟩ ⟨by simp, by simp⟩ (by (repeat (first | exact Sub.nil | apply Sub.cons rfl | (refine Sub.cons_eq rfl (congrArg (Value.int .i64) (by first | omega | (simp only; omega))) ?_)))) (fun w' hw' => ?_) ?_
        · have e1 : flat (t.take i) ++ kids.take 0 = flat (t.take i) := by rw [List.take_zero, List.append_nil]
          rw [e1]
          exact hw'.row_nil _ _ _
        rintro ⟨j, O, qk, ck⟩ ⟨hj, hkv⟩
        simp only at hj hkv ⊢
        apply W.seq
        apply W.reg
        apply obn; rfl; rfl; rfl; apply Bin.lss
        apply OL.nil
        with_reducible apply At.next
        apply W.seq
        (refine W.cond rfl (fun hlt2 => ?_) (fun hlt2 => ?_)) <;> (try (simp only [Bool.and_eq_true, Bool.or_eq_true, Bool.not_eq_true', Bool.and_eq_false_iff, Bool.or_eq_false_iff, Bool.not_eq_false', decide_eq_true_eq, decide_eq_false_iff_not, Int.not_lt, Int.not_le] at hlt2)) <;> (try (exfalso; first | omega | exact hlt2 trivial | contradiction))
        · have hjl : j < kids.length := by omega
          obtain ⟨ak, k, rfl, hakb, hk, hcell⟩ := SlAt.int hks hjl
          apply W.skip
          with_reducible apply At.next
          apply W.seq
          apply W.block
          apply W.seq
          apply W.reg
          apply OL.op; exact Guard.none; rfl; rfl; apply Pev.idx; rfl; exact yes; rfl; exact yes; rfl; rfl; intro hcond; omega
          apply OL.op; exact Guard.none; rfl; rfl; apply Pev.load_kept; rfl; exact yes; exact .head _; rfl; intro hcond; assumption; intro hcond; (rw [add_block]; assumption); intro hcond; simp only [add_block]; refine NotOwned.row (by omega) ?_; refine NotOwned.blk (by omega) ?_; refine NotOwned.blk (by omega) ?_; refine NotOwned.blk (by omega) ?_; exact NotOwned.nil
          apply oas; rfl; rfl
          apply OL.nil
          with_reducible apply At.next
          apply W.seq
          apply W.seq
          apply W.reg
          apply omv; rfl; rfl
          apply obn; rfl; rfl; rfl; apply Bin.lss
          apply omv; rfl; rfl
          apply OL.op; exact Guard.no rfl rfl; rfl; rfl; apply Pev.move; rfl; exact yes
          apply OL.op; exact Guard.no rfl rfl; rfl; rfl; apply Pev.move; rfl; exact yes
          apply OL.op; exact Guard.no rfl rfl; rfl; rfl; apply Pev.bin; rfl; exact fun h => h; rfl; exact fun h => h; intro hcond; apply Bin.geq
          apply OL.op; exact Guard.none; rfl; rfl; apply Pev.pick_or; rfl; exact yes; rfl; exact fun h => h
          apply OL.nil
          with_reducible apply At.next
          refine W.cond rfl (fun hb => ?_) (fun hb => ?_)
          · have hbad := node_bad (t := t) (i := i) (u := (Nk.mk kind text nn kids (some ak) kcap line col)) (List.mem_of_getElem? hk) (by simp at hb; omega)
            rw [hbad] at hrest
            apply W.seq
            apply W.reg
            apply oas; rfl; rfl
            apply OL.nil
            with_reducible apply At.next
            apply W.ret
            with_reducible apply At.then_ret
            with_reducible apply At.in_ret
            with_reducible apply At.then_ret
            with_reducible apply At.then_ret
            with_reducible apply At.in_ret
            with_reducible apply At.then_ret
            with_reducible apply At.in_ret
            with_reducible apply At.then_ret
            with_reducible apply At.then_ret
            with_reducible apply At.in_ret
            with_reducible apply At.then_ret
            ((with_reducible apply At.fin1); rfl; rfl; intro w' hw')
            exact ⟨by rw [ht, ← hrest]; rfl, by (exact hw'.toExt (by (repeat (first | exact List.Mem.head _ | apply List.Mem.tail))) (fun k hk => by (focus ((try simp only [add_block]); (repeat (first | exact NotOwned.nil | exact hno _ (by omega) | refine NotOwned.nothing ?_ | refine NotOwned.nds (hlow _ (by omega)) ?_ | refine NotOwned.mapS (by omega) ?_ | apply NotOwned.bif | refine NotOwned.blk (by omega) ?_ | refine NotOwned.row (by omega) ?_ | refine NotOwned.grid (by assumption) (by omega) ?_)); done))))⟩
          · have hkr : 0 ≤ k ∧ k < (i : Int) := by simp at hb; omega
            obtain ⟨m, rfl⟩ := Int.eq_ofNat_of_zero_le hkr.1
            have hmi : m < i := by omega
            have hml : m < t.length := by omega
            obtain ⟨v, hv⟩ : ∃ v, t[m]? = some v := ⟨_, List.getElem?_eq_getElem hml⟩
            obtain ⟨a', ea, _, hcm, _, _⟩ := node_at hn hv
            cases ea
            have hug := us_get (fl := flat (t.take i) ++ kids.take j) hml
            have hus := us_set (fl := flat (t.take i) ++ kids.take j) hml
            have hcb : (flat (t.take i) ++ kids.take j).count (m : Int) ≤ 42362000000000000 := by
              have h1 := List.count_le_length (a := (m : Int)) (l := flat (t.take i) ++ kids.take j)
              rw [List.length_append, List.length_take] at h1
              omega
            have hd1 := dl_at (t := t) (i := i) (n := t.length) (m := mx (dps t i) (kids.take j) 0)
            have hd2 := dl_old (t := t) (i := i) (n := t.length) (m := mx (dps t i) (kids.take j) 0) hmi
            have hd3 := dl_set (t := t) (i := i) (n := t.length) (m := mx (dps t i) (kids.take j) 0) (m' := if mx (dps t i) (kids.take j) 0 < (dps t i).getD m 0 then (dps t i).getD m 0 else mx (dps t i) (kids.take j) 0)
            have hul1 : (ins (us t.length (flat (t.take i) ++ kids.take j))).length = t.length := by rw [ins_length, us_len]
            have hdl1 : (ins (dl t i (mx (dps t i) (kids.take j) 0) t.length)).length = t.length := by rw [ins_length, dl_len hil]
            generalize hcount : (flat (t.take i) ++ kids.take j).count (m : Int) = cc at hug hus hcb
            clear hcount
            apply W.skip
            with_reducible apply At.next
            apply W.seq
            apply W.reg
            apply omv; rfl; rfl
            apply omv; rfl; rfl
            apply OL.op; exact Guard.none; rfl; rfl; apply Pev.idxB; rfl; exact yes; rfl; exact yes; rfl; intro hcond; omega; rfl
            apply OL.op; exact Guard.none; rfl; rfl; apply Pev.load_blk; rfl; exact yes; apply List.Mem.tail; exact .tail _ (.tail _ (.head _)); rfl; assumption
            apply obn; rfl; rfl; rfl; apply Bin.add_in; omega
            apply OL.op; exact Guard.none; rfl; rfl; apply Pev.idxB; rfl; exact yes; rfl; exact yes; rfl; intro hcond; omega; rfl
            (apply OL.storeI); rfl; rfl; rfl; rfl; rfl; ((repeat (first | apply Swap.z | apply Swap.s))); (omega)
            rw [hus]
            apply OL.nil
            with_reducible apply At.next
            apply W.seq
            apply W.regq; apply Split.s rfl; apply Split.s rfl; apply Split.s rfl; apply Split.s rfl; apply Split.s rfl; apply Split.s rfl; apply Split.s rfl; apply Split.s rfl; apply Split.s rfl; apply Split.s rfl; apply Split.s rfl; apply Split.s rfl; exact Split.z rfl; kernel_rfl; decide +kernel; exact fun w hw => hw.drew
            apply qmv; rfl; rfl
            apply qmv; rfl; rfl
            apply qmv; rfl; rfl
            apply qmv; rfl; rfl
            apply QL.op; exact Guard.none; rfl; rfl; apply Pev.idxB; rfl; exact yes; rfl; exact yes; rfl; intro hcond; omega; rfl
            apply QL.op; exact Guard.none; rfl; rfl; apply Pev.load_blk; rfl; exact yes; exact .tail _ (.tail _ (.head _)); rfl; assumption
            apply qmv; rfl; rfl
            apply qmv; rfl; rfl
            apply QL.op; exact Guard.none; rfl; rfl; apply Pev.idxB; rfl; exact yes; rfl; exact yes; rfl; intro hcond; omega; rfl
            apply QL.op; exact Guard.none; rfl; rfl; apply Pev.load_blk; rfl; exact yes; exact .tail _ (.tail _ (.head _)); rfl; assumption
            apply QL.op; exact Guard.none; rfl; rfl; apply Pev.max2; rfl; exact yes; rfl; exact yes
            apply QL.op; exact Guard.none; rfl; rfl; apply Pev.idxB; rfl; exact yes; rfl; exact yes; rfl; intro hcond; omega; rfl
            with_reducible apply QL.tail
            (apply OL.storeI); rfl; rfl; rfl; rfl; rfl; ((repeat (first | apply Swap.z | apply Swap.s))); (omega)
            rw [hd3]
            apply OL.nil
            with_reducible apply At.next
            apply W.reg
            apply omv; rfl; rfl
            apply omv; rfl; rfl
            apply omv; rfl; rfl
            apply OL.op; exact Guard.none; rfl; rfl; apply Pev.idx; rfl; exact yes; rfl; exact yes; rfl; rfl; intro hcond; omega
            apply OL.op; exact Guard.none; rfl; rfl; apply Pev.fldA; rfl; exact yes; rfl
            apply OL.op; exact Guard.none; rfl; rfl; apply Pev.load_kept; rfl; exact yes; exact .head _; rfl; intro hcond; apply CellsAt.at_ (by assumption) rfl; intro hcond; (simp only [add_block]; assumption); intro hcond; simp only [add_block]; refine NotOwned.row (by omega) ?_; refine NotOwned.blk (by omega) ?_; refine NotOwned.blk (by omega) ?_; refine NotOwned.blk (by omega) ?_; exact NotOwned.nil
            apply OL.buildSlice; rfl; rfl; rfl; apply Elems.cons rfl; exact CellsL.one rfl; rfl; apply Elems.nil; apply App.cons; apply App.nil; rfl; rfl; (intro bk hbk; simp only [AllLe, and_true] at hbk)
            apply OL.append; rfl; rfl; rfl; rfl; apply Hole.s; apply Hole.z; exact .head _; apply Take.succ; apply Take.zero; rfl; rfl; exact ⟨_, .head _, Nat.le_refl _⟩; omega; intro O1 g1 cap1
            apply oas; rfl; rfl
            apply OL.nil
            with_reducible apply At.in_normal
            with_reducible apply At.next
            apply W.reg
            apply obn; rfl; rfl; rfl; apply Bin.add_in; omega
            apply omv; rfl; rfl
            apply OL.nil
            have hkv' : kd t (m : Int) = v.kind := kd_get (by simpa using hv)
            have e1 : ins ((kids.take (j + 1)).map (kd t)) = ins ((kids.take j).map (kd t)) ++ [.int .i64 v.kind] := by rw [take_one hk, List.map_append, ins_append]; simp [ins, hkv']
            have e2 : mx (dps t i) (kids.take (j + 1)) 0 = (if mx (dps t i) (kids.take j) 0 < (dps t i).getD m 0 then (dps t i).getD m 0 else mx (dps t i) (kids.take j) 0) := (mx_step hk).trans (by show max (mx (dps t i) (kids.take j) 0) ((dps t i).getD m 0) = _; rw [Int.max_def]; split <;> split <;> omega)
            have e3 : flat (t.take i) ++ kids.take (j + 1) = flat (t.take i) ++ kids.take j ++ [(m : Int)] := by rw [take_one hk, List.append_assoc]
            refine At.again ⟨j + 1, O1, some ⟨g1, 0, none⟩, cap1⟩ ⟨by dsimp only; omega, ?_⟩ (by dsimp only; omega) (by (repeat (first | exact Sub.nil | apply Sub.cons rfl | (refine Sub.cons_eq rfl (congrArg (Value.int .i64) (by first | omega | (simp only; omega))) ?_)))) (fun w' hw' => by simp only [e1, e2, e3]; exact hw'.thin (by (repeat (first | exact Thin.nil | exact Thin.same | apply Thin.keep | (refine Thin.blk (by assumption) ?_) | (refine Thin.blk (by simp only [AllLe, and_true]; omega) ?_)))))
            simp only
            rw [take_one hk]
            intro k2 h2
            rcases List.mem_append.1 h2 with h2 | h2
            · exact hkv k2 h2
            · rw [List.mem_singleton.1 h2]; exact hkr
        · have hje : j = kids.length := by omega
          subst hje
          rw [take_all] at hkv
          rw [take_all]
          have hmx := mx_le t i kids
          have hdep := dep_eq hu
          simp only at hdep
          have hd1 := dl_at (t := t) (i := i) (n := t.length) (m := mx (dps t i) kids 0)
          have hd3 : (ins (dl t i (mx (dps t i) kids 0) t.length)).set (0 + (i : Int).toNat * 1) (.int .i64 (mx (dps t i) kids 0 + 1)) = ins (dl t i (dep t i) t.length) := by rw [hdep]; exact dl_set
          have hdl1 : (ins (dl t i (mx (dps t i) kids 0) t.length)).length = t.length := by rw [ins_length, dl_len hil]
          have hd4 := dl_at (t := t) (i := i) (n := t.length) (m := dep t i)
          apply W.exit
          with_reducible apply At.then_exit
          with_reducible apply At.then_exit
          with_reducible apply At.in_exit
          with_reducible apply At.next
          apply W.seq
          apply W.reg
          apply omv; rfl; rfl
          apply omv; rfl; rfl
          apply OL.op; exact Guard.none; rfl; rfl; apply Pev.idxB; rfl; exact yes; rfl; exact yes; rfl; intro hcond; omega; rfl
          apply OL.op; exact Guard.none; rfl; rfl; apply Pev.load_blk; rfl; exact yes; exact .tail _ (.tail _ (.head _)); rfl; assumption
          apply obn; rfl; rfl; rfl; apply Bin.add_in; omega
          apply OL.op; exact Guard.none; rfl; rfl; apply Pev.idxB; rfl; exact yes; rfl; exact yes; rfl; intro hcond; omega; rfl
          (apply OL.storeI); rfl; rfl; rfl; rfl; rfl; ((repeat (first | apply Swap.z | apply Swap.s))); (omega)
          rw [hd3]
          apply OL.nil
          with_reducible apply At.next
          apply W.block
          apply W.seq
          apply W.reg
          apply ofa; rfl; rfl; rfl
          apply old; rfl; rfl; exact .tail _ (.head _); rfl; rfl
          apply obn; rfl; rfl; rfl; apply Bin.lss
          apply omv; rfl; rfl
          apply OL.op; exact Guard.no rfl rfl; rfl; rfl; apply Pev.fld; rfl; exact yes; rfl
          apply OL.op; exact Guard.no rfl rfl; rfl; rfl; apply Pev.load_blk; rfl; exact fun h => h; exact .tail _ (.head _); rfl; rfl
          apply OL.op; exact Guard.no rfl rfl; rfl; rfl; apply Pev.bin; rfl; exact fun h => h; rfl; exact yes; intro hcond; apply Bin.gtr
          apply OL.op; exact Guard.none; rfl; rfl; apply Pev.pick_or; rfl; exact yes; rfl; exact fun h => h
          apply omv; rfl; rfl
          apply OL.op; exact Guard.no rfl rfl; rfl; rfl; apply Pev.fld; rfl; exact yes; rfl
          apply OL.op; exact Guard.no rfl rfl; rfl; rfl; apply Pev.load_blk; rfl; exact fun h => h; exact .tail _ (.head _); rfl; rfl
          apply OL.op; exact Guard.no rfl rfl; rfl; rfl; apply Pev.bin; rfl; exact fun h => h; rfl; exact yes; intro hcond; apply Bin.eql
          apply OL.op; exact Guard.no rfl rfl; rfl; rfl; apply Pev.move; rfl; exact fun h => h
          apply OL.op; exact Guard.cyes rfl rfl; rfl; rfl; apply Pev.move; rfl; exact yes
          apply OL.op; exact Guard.cyes rfl rfl; rfl; rfl; apply Pev.move; rfl; exact yes
          apply OL.op; exact Guard.cyes rfl rfl; rfl; rfl; apply Pev.len_slice; rfl; exact fun h => h; rfl
          apply OL.op; exact Guard.cyes rfl rfl; rfl; rfl; apply Pev.bin; rfl; exact fun h => h; rfl; exact yes; intro hcond; apply Bin.sub_in; omega
          apply OL.op; exact Guard.cyes rfl rfl; rfl; rfl; apply Pev.bin; rfl; exact fun h => h; rfl; exact fun h => h; intro hcond; apply Bin.lss
          apply OL.op; exact Guard.no rfl rfl; rfl; rfl; apply Pev.pick_and; rfl; exact fun h => h; rfl; exact fun h => h
          apply OL.op; exact Guard.none; rfl; rfl; apply Pev.pick_or; rfl; exact yes; rfl; exact fun h => h
          apply oas; rfl; rfl
          apply OL.nil
          with_reducible apply At.next
          refine W.cond rfl (fun hb => ?_) (fun hb => ?_)
          · have hkE : kindE t i (Nk.mk kind text nn kids kq kcap line col) = true := by
              unfold kindE
              simp only [Bool.or_eq_true, Bool.and_eq_true, decide_eq_true_eq, bne_iff_ne, ne_eq, decide_eq_decide] at hb ⊢
              omega
            rw [nodeE_kind hkv hkE] at hrest
            apply W.seq
            apply W.reg
            apply oas; rfl; rfl
            apply OL.nil
            with_reducible apply At.next
            apply W.ret
            with_reducible apply At.in_ret
            with_reducible apply At.in_ret
            with_reducible apply At.then_ret
            with_reducible apply At.then_ret
            with_reducible apply At.in_ret
            with_reducible apply At.then_ret
            ((with_reducible apply At.fin1); rfl; rfl; intro w' hw')
            exact ⟨by rw [ht, ← hrest]; rfl, by (exact hw'.toExt (by (repeat (first | exact List.Mem.head _ | apply List.Mem.tail))) (fun k hk => by (focus ((try simp only [add_block]); (repeat (first | exact NotOwned.nil | exact hno _ (by omega) | refine NotOwned.nothing ?_ | refine NotOwned.nds (hlow _ (by omega)) ?_ | refine NotOwned.mapS (by omega) ?_ | apply NotOwned.bif | refine NotOwned.blk (by omega) ?_ | refine NotOwned.row (by omega) ?_ | refine NotOwned.grid (by assumption) (by omega) ?_)); done))))⟩
          · have hkE : kindE t i (Nk.mk kind text nn kids kq kcap line col) = false := by
              refine Bool.eq_false_iff.2 fun hh => ?_
              unfold kindE at hh
              rw [← Bool.not_eq_true] at hb
              simp only [Bool.or_eq_true, Bool.and_eq_true, decide_eq_true_eq, bne_iff_ne, ne_eq, decide_eq_decide] at hb hh
              omega
            have hk38 := kind_no hkE
            have hform := form_eq hg hi hkv hk38.1 hk38.2
            have hkok := kid_ok hg hi hkv
            have hfit : ∀ w2, SlAt w2 w2.heap.size qk (ins (kids.map (kd t))) → Calls Try.prog 44 #[.int .i64 kind, .slice qk kids.length ck] w2 fun e w' => e = .returned (.bool (fitP kind (kids.map (kd t)))) ∧ Ext w2 w' := fun w2 hs => by
              have h := fits_calls kind qk ck (kids.map (kd t)) w2 (by rw [List.length_map]; omega) hs
              rw [List.length_map] at h
              exact h
            have hfe : formE' t (Nk.mk kind text nn kids kq kcap line col) = (!fitP kind (kids.map (kd t)) || kids.any (fieldP t (Nk.mk kind text nn kids kq kcap line col)) || impE (Nk.mk kind text nn kids kq kcap line col)) := rfl
            have hfld : ∀ w2, Ext w w2 → Calls Try.prog 45 #[.slice (some a) t.length cap, .agg (nc (Nk.mk kind text nn kids kq kcap line col)).toArray] w2 fun e w' => e = .returned (.bool (!kids.any (fieldP t (Nk.mk kind text nn kids kq kcap line col)))) ∧ Ext w2 w' := fun w2 hx =>
              fields_calls t (Nk.mk kind text nn kids kq kcap line col) (some a) cap w2 hkok (hn.ext hx) (by omega) hkl (hks.ext hx (Nat.le_refl _))
            generalize fitP kind (kids.map (kd t)) = bf at hfit hfe
            generalize kids.any (fieldP t (Nk.mk kind text nn kids kq kcap line col)) = ba at hfld hfe
            rw [hform] at hfe
            clear hd1 hd3 hdl1 hform hkok
            apply W.seq
            apply W.reg
            apply ofa; rfl; rfl; rfl
            apply old; rfl; rfl; exact .tail _ (.head _); rfl; rfl
            apply omv; rfl; rfl
            (((first | (with_reducible apply OL.op) | (with_reducible apply QL.op)); ((first | exact Guard.none | exact Guard.yes rfl rfl | exact Guard.no rfl rfl | exact Guard.cyes rfl rfl | exact Guard.cno rfl rfl)); rfl; rfl); (exact Pev.call rfl (by (repeat (first | exact Args.nil | (apply Args.cons rfl; ((first | exact fun _ => rfl | exact fun h => h | (intro h; simp_all; done))))))) (fun _ w2 hw2 => (hfit w2 (SlAt.of_row (hw2.item (.head _)))).mono (fun e w3 h => ⟨h.1, hw2.ext h.2⟩))))
            apply OL.op; exact Guard.none; rfl; rfl; apply Pev.not; rfl; exact yes
            apply omv; rfl; rfl
            apply OL.op; exact Guard.no rfl rfl; rfl; rfl; apply Pev.move; rfl; exact yes
            apply OL.op; exact Guard.no rfl rfl; rfl; rfl; apply Pev.load_blkA; rfl; exact yes; exact .tail _ (.head _); rfl; apply Take.succ; apply Take.succ; apply Take.succ; apply Take.succ; apply Take.succ; apply Take.succ; apply Take.zero
            (((first | (with_reducible apply OL.op) | (with_reducible apply QL.op)); ((first | exact Guard.none | exact Guard.yes rfl rfl | exact Guard.no rfl rfl | exact Guard.cyes rfl rfl | exact Guard.cno rfl rfl)); rfl; rfl); (exact Pev.call rfl (by (repeat (first | exact Args.nil | (apply Args.cons rfl; ((first | exact fun _ => rfl | exact fun h => h | (intro h; simp_all; done))))))) (fun _ w2 hw2 => (hfld w2 (hw2.toExt (by (repeat (first | exact List.Mem.head _ | apply List.Mem.tail))) (fun k hk => by (focus ((try simp only [add_block]); (repeat (first | exact NotOwned.nil | exact hno _ (by omega) | refine NotOwned.nothing ?_ | refine NotOwned.nds (hlow _ (by omega)) ?_ | refine NotOwned.mapS (by omega) ?_ | apply NotOwned.bif | refine NotOwned.blk (by omega) ?_ | refine NotOwned.row (by omega) ?_ | refine NotOwned.grid (by assumption) (by omega) ?_)); done))))).mono (fun e w3 h => ⟨h.1, hw2.ext h.2⟩))))
            apply OL.op; exact Guard.no rfl rfl; rfl; rfl; apply Pev.not; rfl; exact fun h => h
            apply OL.op; exact Guard.none; rfl; rfl; apply Pev.pick_or; rfl; exact yes; rfl; exact fun h => h
            apply omv; rfl; rfl
            apply OL.op; exact Guard.no rfl rfl; rfl; rfl; apply Pev.fld; rfl; exact yes; rfl
            apply OL.op; exact Guard.no rfl rfl; rfl; rfl; apply Pev.load_blk; rfl; exact fun h => h; exact .tail _ (.head _); rfl; rfl
            apply OL.op; exact Guard.no rfl rfl; rfl; rfl; apply Pev.bin; rfl; exact fun h => h; rfl; exact yes; intro hcond; apply Bin.eql
            apply OL.op; exact Guard.no rfl rfl; rfl; rfl; apply Pev.move; rfl; exact fun h => h
            apply OL.op; exact Guard.cyes rfl rfl; rfl; rfl; apply Pev.fld; rfl; exact yes; rfl
            apply OL.op; exact Guard.cyes rfl rfl; rfl; rfl; apply Pev.load_blk; rfl; exact fun h => h; exact .tail _ (.head _); rfl; rfl
            apply OL.op; exact Guard.cyes rfl rfl; rfl; rfl; apply Pev.bin; rfl; exact fun h => h; rfl; exact yes; intro hcond; apply Bin.lss
            apply OL.op; exact Guard.cyes rfl rfl; rfl; rfl; apply Pev.move; rfl; exact fun h => h
            apply OL.op; exact Guard.cno rfl rfl; rfl; rfl; apply Pev.fld; rfl; exact yes; rfl
            apply OL.op; exact Guard.cno rfl rfl; rfl; rfl; apply Pev.load_blk; rfl; exact fun h => h; exact .tail _ (.head _); rfl; rfl
            apply OL.op; exact Guard.cno rfl rfl; rfl; rfl; apply Pev.bin; rfl; exact fun h => h; rfl; exact yes; intro hcond; apply Bin.gtr
            apply OL.op; exact Guard.cyes rfl rfl; rfl; rfl; apply Pev.pick_or; rfl; exact fun h => h; rfl; exact fun h => h
            apply OL.op; exact Guard.cyes rfl rfl; rfl; rfl; apply Pev.move; rfl; exact fun h => h
            apply OL.op; exact Guard.cno rfl rfl; rfl; rfl; apply Pev.fld; rfl; exact yes; rfl
            apply OL.op; exact Guard.cno rfl rfl; rfl; rfl; apply Pev.load_blk; rfl; exact fun h => h; exact .tail _ (.head _); rfl; rfl
            apply OL.op; exact Guard.cno rfl rfl; rfl; rfl; apply Pev.bin; rfl; exact fun h => h; rfl; exact yes; intro hcond; apply Bin.eql
            apply OL.op; exact Guard.cno rfl rfl; rfl; rfl; apply Pev.move; rfl; exact fun h => h
            apply OL.op; exact Guard.cyes rfl rfl; rfl; rfl; apply Pev.move; rfl; exact yes
            apply OL.op; exact Guard.cyes rfl rfl; rfl; rfl; apply Pev.len_slice; rfl; exact fun h => h; rfl
            apply OL.op; exact Guard.cyes rfl rfl; rfl; rfl; apply Pev.bin; rfl; exact fun h => h; rfl; exact yes; intro hcond; apply Bin.gtr
            apply OL.op; exact Guard.cno rfl rfl; rfl; rfl; apply Pev.pick_and; rfl; exact fun h => h; rfl; exact fun h => h
            apply OL.op; exact Guard.cyes rfl rfl; rfl; rfl; apply Pev.pick_or; rfl; exact fun h => h; rfl; exact fun h => h
            apply OL.op; exact Guard.no rfl rfl; rfl; rfl; apply Pev.pick_and; rfl; exact fun h => h; rfl; exact fun h => h
            apply OL.op; exact Guard.none; rfl; rfl; apply Pev.pick_or; rfl; exact yes; rfl; exact fun h => h
            apply oas; rfl; rfl
            apply OL.nil
            with_reducible apply At.next
            refine W.cond rfl (fun hb2 => ?_) (fun hb2 => ?_)
            · have hfE : formE t (Nk.mk kind text nn kids kq kcap line col) = true := by
                rw [hfe]
                unfold impE
                cases bf <;> cases ba <;> simp at hb2 ⊢ <;> omega
              rw [nodeE_form hkv hkE hfE] at hrest
              apply W.seq
              apply W.reg
              apply oas; rfl; rfl
              apply OL.nil
              with_reducible apply At.next
              apply W.ret
              with_reducible apply At.in_ret
              with_reducible apply At.in_ret
              with_reducible apply At.then_ret
              with_reducible apply At.then_ret
              with_reducible apply At.in_ret
              with_reducible apply At.then_ret
              ((with_reducible apply At.fin1); rfl; rfl; intro w' hw')
              exact ⟨by rw [ht, ← hrest]; rfl, by (exact hw'.toExt (by (repeat (first | exact List.Mem.head _ | apply List.Mem.tail))) (fun k hk => by (focus ((try simp only [add_block]); (repeat (first | exact NotOwned.nil | exact hno _ (by omega) | refine NotOwned.nothing ?_ | refine NotOwned.nds (hlow _ (by omega)) ?_ | refine NotOwned.mapS (by omega) ?_ | apply NotOwned.bif | refine NotOwned.blk (by omega) ?_ | refine NotOwned.row (by omega) ?_ | refine NotOwned.grid (by assumption) (by omega) ?_)); done))))⟩
            · have hfE : formE t (Nk.mk kind text nn kids kq kcap line col) = false := by
                rw [hfe]
                unfold impE
                cases bf <;> cases ba <;> simp at hb2 ⊢ <;> omega
              clear hfe hfit hfld
              apply W.seq
              apply W.reg
              apply omv; rfl; rfl
              apply omv; rfl; rfl
              apply OL.op; exact Guard.none; rfl; rfl; apply Pev.idxB; rfl; exact yes; rfl; exact yes; rfl; intro hcond; omega; rfl
              apply OL.op; exact Guard.none; rfl; rfl; apply Pev.load_blk; rfl; exact yes; exact .tail _ (.tail _ (.head _)); rfl; assumption
              apply obn; rfl; rfl; rfl; apply Bin.gtr
              apply oas; rfl; rfl
              apply OL.nil
              with_reducible apply At.next
              refine W.cond rfl (fun hb3 => ?_) (fun hb3 => ?_)
              · rw [nodeE_dep hkv hkE hfE (of_decide_eq_true hb3)] at hrest
                apply W.seq
                apply W.reg
                apply oas; rfl; rfl
                apply OL.nil
                with_reducible apply At.next
                apply W.ret
                with_reducible apply At.in_ret
                with_reducible apply At.in_ret
                with_reducible apply At.then_ret
                with_reducible apply At.then_ret
                with_reducible apply At.in_ret
                with_reducible apply At.then_ret
                ((with_reducible apply At.fin1); rfl; rfl; intro w' hw')
                exact ⟨by rw [ht, ← hrest]; rfl, by (exact hw'.toExt (by (repeat (first | exact List.Mem.head _ | apply List.Mem.tail))) (fun k hk => by (focus ((try simp only [add_block]); (repeat (first | exact NotOwned.nil | exact hno _ (by omega) | refine NotOwned.nothing ?_ | refine NotOwned.nds (hlow _ (by omega)) ?_ | refine NotOwned.mapS (by omega) ?_ | apply NotOwned.bif | refine NotOwned.blk (by omega) ?_ | refine NotOwned.row (by omega) ?_ | refine NotOwned.grid (by assumption) (by omega) ?_)); done))))⟩
              · rw [nodeE_rng hkv hkE hfE (of_decide_eq_false hb3)] at hrest
                apply W.seq
                apply W.reg
                apply ofa; rfl; rfl; rfl
                apply old; rfl; rfl; exact .tail _ (.head _); rfl; rfl
                apply obn; rfl; rfl; rfl; apply Bin.eql
                apply omv; rfl; rfl
                apply OL.op; exact Guard.no rfl rfl; rfl; rfl; apply Pev.fld; rfl; exact yes; rfl
                apply OL.op; exact Guard.no rfl rfl; rfl; rfl; apply Pev.load_blk; rfl; exact fun h => h; exact .tail _ (.head _); rfl; rfl
                apply OL.op; exact Guard.no rfl rfl; rfl; rfl; apply Pev.bin; rfl; exact fun h => h; rfl; exact yes; intro hcond; apply Bin.eql
                apply OL.op; exact Guard.none; rfl; rfl; apply Pev.pick_or; rfl; exact yes; rfl; exact fun h => h
                apply omv; rfl; rfl
                apply OL.op; exact Guard.yes rfl rfl; rfl; rfl; apply Pev.fld; rfl; exact yes; rfl
                apply OL.op; exact Guard.yes rfl rfl; rfl; rfl; apply Pev.load_blk; rfl; exact fun h => h; exact .tail _ (.head _); rfl; rfl
                apply OL.op; exact Guard.yes rfl rfl; rfl; rfl; apply Pev.bin; rfl; exact fun h => h; rfl; exact yes; intro hcond; apply Bin.lss
                apply OL.op; exact Guard.yes rfl rfl; rfl; rfl; apply Pev.move; rfl; exact fun h => h
                apply OL.op; exact Guard.cno rfl rfl; rfl; rfl; apply Pev.fld; rfl; exact yes; rfl
                apply OL.op; exact Guard.cno rfl rfl; rfl; rfl; apply Pev.load_blk; rfl; exact fun h => h; exact .tail _ (.head _); rfl; rfl
                apply OL.op; exact Guard.cno rfl rfl; rfl; rfl; apply Pev.bin; rfl; exact fun h => h; rfl; exact yes; intro hcond; apply Bin.gtr
                apply OL.op; exact Guard.yes rfl rfl; rfl; rfl; apply Pev.pick_or; rfl; exact fun h => h; rfl; exact fun h => h
                apply OL.op; exact Guard.none; rfl; rfl; apply Pev.pick_and; rfl; exact yes; rfl; exact fun h => h
                apply omv; rfl; rfl
                apply OL.op; exact Guard.no rfl rfl; rfl; rfl; apply Pev.fld; rfl; exact yes; rfl
                apply OL.op; exact Guard.no rfl rfl; rfl; rfl; apply Pev.load_blk; rfl; exact fun h => h; exact .tail _ (.head _); rfl; rfl
                apply OL.op; exact Guard.no rfl rfl; rfl; rfl; apply Pev.bin; rfl; exact fun h => h; rfl; exact yes; intro hcond; apply Bin.eql
                apply OL.op; exact Guard.no rfl rfl; rfl; rfl; apply Pev.move; rfl; exact fun h => h
                apply OL.op; exact Guard.cyes rfl rfl; rfl; rfl; apply Pev.fld; rfl; exact yes; rfl
                apply OL.op; exact Guard.cyes rfl rfl; rfl; rfl; apply Pev.load_blk; rfl; exact fun h => h; exact .tail _ (.head _); rfl; rfl
                apply OL.op; exact Guard.cyes rfl rfl; rfl; rfl; apply Pev.bin; rfl; exact fun h => h; rfl; exact yes; intro hcond; apply Bin.lss
                apply OL.op; exact Guard.cyes rfl rfl; rfl; rfl; apply Pev.move; rfl; exact fun h => h
                apply OL.op; exact Guard.cno rfl rfl; rfl; rfl; apply Pev.fld; rfl; exact yes; rfl
                apply OL.op; exact Guard.cno rfl rfl; rfl; rfl; apply Pev.load_blk; rfl; exact fun h => h; exact .tail _ (.head _); rfl; rfl
                apply OL.op; exact Guard.cno rfl rfl; rfl; rfl; apply Pev.bin; rfl; exact fun h => h; rfl; exact yes; intro hcond; apply Bin.gtr
                apply OL.op; exact Guard.cyes rfl rfl; rfl; rfl; apply Pev.pick_or; rfl; exact fun h => h; rfl; exact fun h => h
                apply OL.op; exact Guard.no rfl rfl; rfl; rfl; apply Pev.pick_and; rfl; exact fun h => h; rfl; exact fun h => h
                apply OL.op; exact Guard.none; rfl; rfl; apply Pev.pick_or; rfl; exact yes; rfl; exact fun h => h
                apply oas; rfl; rfl
                apply OL.nil
                with_reducible apply At.next
                refine W.cond rfl (fun hb4 => ?_) (fun hb4 => ?_)
                · have hrE : rngE (Nk.mk kind text nn kids kq kcap line col) = true := hb4
                  rw [hrE] at hrest
                  apply W.seq
                  apply W.reg
                  apply oas; rfl; rfl
                  apply OL.nil
                  with_reducible apply At.next
                  apply W.ret
                  with_reducible apply At.in_ret
                  with_reducible apply At.in_ret
                  with_reducible apply At.then_ret
                  with_reducible apply At.then_ret
                  with_reducible apply At.in_ret
                  with_reducible apply At.then_ret
                  ((with_reducible apply At.fin1); rfl; rfl; intro w' hw')
                  exact ⟨by rw [ht, ← hrest]; rfl, by (exact hw'.toExt (by (repeat (first | exact List.Mem.head _ | apply List.Mem.tail))) (fun k hk => by (focus ((try simp only [add_block]); (repeat (first | exact NotOwned.nil | exact hno _ (by omega) | refine NotOwned.nothing ?_ | refine NotOwned.nds (hlow _ (by omega)) ?_ | refine NotOwned.mapS (by omega) ?_ | apply NotOwned.bif | refine NotOwned.blk (by omega) ?_ | refine NotOwned.row (by omega) ?_ | refine NotOwned.grid (by assumption) (by omega) ?_)); done))))⟩
                · have hrE : rngE (Nk.mk kind text nn kids kq kcap line col) = false := hb4
                  rw [hrE] at hrest
                  have hok : nodeE t i (Nk.mk kind text nn kids kq kcap line col) = 0 := by rw [nodeE_rng hkv hkE hfE (of_decide_eq_false hb3), hrE]; rfl
                  apply W.skip
                  with_reducible apply At.in_normal
                  with_reducible apply At.in_normal
                  with_reducible apply At.next
                  apply W.reg
                  apply obn; rfl; rfl; rfl; apply Bin.add_in; omega
                  apply omv; rfl; rfl
                  apply OL.nil
                  refine At.again (i + 1) ⟨by omega, hg.step hu hok, by simpa using hrest⟩ (by omega) (by (repeat (first | exact Sub.nil | apply Sub.cons rfl | (refine Sub.cons_eq rfl (congrArg (Value.int .i64) (by first | omega | (simp only; omega))) ?_)))) (fun w' hw' => ?_)
                  rw [← dl_end hil, flat_step hu]
                  exact hw'.thin (Thin.row (by simp only [AllLe, and_true]; omega) (Thin.blk (by simp only [AllLe, and_true]; omega) Thin.same))
      · have hie : i = t.length := by omega
        subst hie
        rw [errF_end (Nat.le_refl _)] at hrest
        rw [← hrest, if_neg (by simp)] at ht
        rw [List.take_length]
        have hul1 : (ins (us t.length (flat t))).length = t.length := by rw [ins_length, us_len]
        apply W.exit
        with_reducible apply At.then_exit
        with_reducible apply At.then_exit
        with_reducible apply At.in_exit
        with_reducible apply At.next
        apply W.seq
        apply W.seq
        apply W.reg
        apply omv; rfl; rfl
        apply omv; rfl; rfl
        apply OL.op; exact Guard.none; rfl; rfl; apply Pev.len_slice; rfl; exact yes; rfl
        apply obn; rfl; rfl; rfl; apply Bin.sub_in; omega
        apply OL.op; exact Guard.none; rfl; rfl; apply Pev.slice_hi; rfl; exact yes; rfl; exact yes; rfl; (first | exact (Int.toNat_of_nonneg (by omega)).symm | omega); intro hcond; omega
        apply OL.op; exact Guard.none; rfl; rfl; apply Pev.len_slice; rfl; exact yes; rfl
        apply omv; rfl; rfl
        apply OL.nil
        with_reducible apply At.next
        apply W.block
        refine W.loop (G := Nat) (fun i => i ≤ t.length - 1 ∧ ∀ j, j < i → (flat t).count (j : Int) = 1) (fun i => t.length - 1 - i)
          (fun i => [(193, true, .slice (some ⟨x.b2, 0, none⟩) ((t.length : Int) - 1).toNat t.length), (194, true, .int .i64 (((t.length : Int) - 1).toNat : Int)), (195, true, .int .i64 (i : Int))])
          (fun i => Cls [blk x.b5 3 (ins (dps t t.length ++ List.replicate (t.length - t.length) 0)), blk x.b2 3 (ins (us t.length (flat t)))] [w]) 0 ⟨by omega, by omega⟩ (by (repeat (first | exact Sub.nil | apply Sub.cons rfl | (refine Sub.cons_eq rfl (congrArg (Value.int .i64) (by first | omega | (simp only; omega))) ?_)))) (fun w' hw' => hw') ?_
        rintro i ⟨hi2, hc⟩
        apply W.seq
        apply W.reg
        apply obn; rfl; rfl; rfl; apply Bin.lss
        apply OL.nil
        with_reducible apply At.next
        apply W.seq
        (refine W.cond rfl (fun hlt2 => ?_) (fun hlt2 => ?_)) <;> (try (simp only [Bool.and_eq_true, Bool.or_eq_true, Bool.not_eq_true', Bool.and_eq_false_iff, Bool.or_eq_false_iff, Bool.not_eq_false', decide_eq_true_eq, decide_eq_false_iff_not, Int.not_lt, Int.not_le] at hlt2)) <;> (try (exfalso; first | omega | exact hlt2 trivial | contradiction))
        · have hug := us_get (n := t.length) (m := i) (fl := flat t) (by omega)
          apply W.skip
          with_reducible apply At.next
          apply W.seq
          apply W.block
          apply W.seq
          apply W.reg
          apply OL.op; exact Guard.none; rfl; rfl; apply Pev.idxB; rfl; exact yes; rfl; exact yes; rfl; intro hcond; omega; rfl
          apply OL.op; exact Guard.none; rfl; rfl; apply Pev.load_blk; rfl; exact yes; exact .tail _ (.head _); rfl; assumption
          apply oas; rfl; rfl
          apply OL.nil
          with_reducible apply At.next
          apply W.seq
          apply W.reg
          apply omv; rfl; rfl
          apply obn; rfl; rfl; rfl; apply Bin.neq
          apply OL.nil
          with_reducible apply At.next
          refine W.cond rfl (fun hb => ?_) (fun hb => ?_)
          · rw [if_neg (fun h => by have := h i (by omega); rw [this] at hb; simp at hb)] at ht
            apply W.seq
            apply W.reg
            apply oas; rfl; rfl
            apply OL.nil
            with_reducible apply At.next
            apply W.ret
            with_reducible apply At.in_ret
            with_reducible apply At.then_ret
            with_reducible apply At.then_ret
            with_reducible apply At.in_ret
            with_reducible apply At.then_ret
            ((with_reducible apply At.fin1); rfl; rfl; intro w' hw')
            exact ⟨by rw [ht], by (exact hw'.toExt (by (repeat (first | exact List.Mem.head _ | apply List.Mem.tail))) (fun k hk => by (focus ((try simp only [add_block]); (repeat (first | exact NotOwned.nil | exact hno _ (by omega) | refine NotOwned.nothing ?_ | refine NotOwned.nds (hlow _ (by omega)) ?_ | refine NotOwned.mapS (by omega) ?_ | apply NotOwned.bif | refine NotOwned.blk (by omega) ?_ | refine NotOwned.row (by omega) ?_ | refine NotOwned.grid (by assumption) (by omega) ?_)); done))))⟩
          · apply W.skip
            with_reducible apply At.in_normal
            with_reducible apply At.next
            apply W.reg
            apply obn; rfl; rfl; rfl; apply Bin.add_in; omega
            apply omv; rfl; rfl
            apply OL.nil
            refine At.again (i + 1) ⟨by omega, fun j hj => ?_⟩ (by omega) (by (repeat (first | exact Sub.nil | apply Sub.cons rfl | (refine Sub.cons_eq rfl (congrArg (Value.int .i64) (by first | omega | (simp only; omega))) ?_)))) (fun w' hw' => hw')
            by_cases e : j = i
            · subst e
              simp at hb
              omega
            · exact hc j (by omega)
        · rw [if_pos (fun j hj => hc j (by omega))] at ht
          apply W.exit
          with_reducible apply At.then_exit
          with_reducible apply At.then_exit
          with_reducible apply At.in_exit
          with_reducible apply At.next
          apply W.seq
          apply W.reg
          apply oas; rfl; rfl
          apply OL.nil
          with_reducible apply At.next
          apply W.ret
          ((with_reducible apply At.fin1); rfl; rfl; intro w' hw')
          exact ⟨by rw [ht], by (exact hw'.toExt (by (repeat (first | exact List.Mem.head _ | apply List.Mem.tail))) (fun k hk => by (focus ((try simp only [add_block]); (repeat (first | exact NotOwned.nil | exact hno _ (by omega) | refine NotOwned.nothing ?_ | refine NotOwned.nds (hlow _ (by omega)) ?_ | refine NotOwned.mapS (by omega) ?_ | apply NotOwned.bif | refine NotOwned.blk (by omega) ?_ | refine NotOwned.row (by omega) ?_ | refine NotOwned.grid (by assumption) (by omega) ?_)); done))))⟩
end Go.Proofs.Ytlcclcakdfmgkaa.pk
