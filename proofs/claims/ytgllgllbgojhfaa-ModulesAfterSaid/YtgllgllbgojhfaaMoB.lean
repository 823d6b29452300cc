/- The walks of modules.Check and of the reference's ModulesError. Conditions: none. -/
import Derived.Test.YtgllgllbgojhfaaMoM
import Derived.Test.YtgllgllbgojhfaaMoA
namespace Go.Proofs.Ytgllgllbgojhfaa.mo
open Go.RowKit Go.Eng Go.Mo
set_option linter.unusedVariables false
set_option linter.unusedSimpArgs false
set_option maxRecDepth 100000

theorem Check_calls (q q' : Option Addr) (cap cap' : Nat) (l : List ByteArray) (ll : List (List ByteArray)) (w : World) (hlen : l.length ≤ 9223372036854775807) (hcap : l.length ≤ cap) (h : SlAt w w.heap.size q (strs l))
    (hlen' : ll.length ≤ 9223372036854775807) (h' : StrRows w w.heap.size q' ll) :
    Calls Try.prog 13 #[.slice q l.length cap, .slice q' ll.length cap'] w fun e w' => e = .returned (.int .i64 (chk l ll)) ∧ Ext w w' := by
  refine enter Try.func13 rfl Try.ntmps13 rfl (Cls.start w) ?_
  (simp only [argEnv, Nat.zero_add, Nat.reduceAdd])
  apply W.seq
  apply W.reg
  apply oas; rfl; rfl
  apply OL.nil
  with_reducible apply At.next
  apply W.seq
  apply W.block
  apply W.seq
  apply W.reg
  apply omv; rfl; rfl
  apply OL.op; exact Guard.none; rfl; rfl; apply Pev.len_slice; rfl; exact yes; rfl
  apply obn; rfl; rfl; rfl; apply Bin.gtr
  apply oas; rfl; rfl
  apply OL.nil
  with_reducible apply At.next
  (refine W.cond rfl (fun h1 => ?_) (fun h1 => ?_)) <;> (try (simp only [Bool.and_eq_true, Bool.or_eq_true, Bool.not_eq_true', Bool.and_eq_false_iff, Bool.or_eq_false_iff, Bool.not_eq_false', decide_eq_true_eq, decide_eq_false_iff_not, Int.not_lt, Int.not_le] at h1)) <;> (try (exfalso; first | omega | exact h1 trivial | contradiction))
  · apply W.seq
    apply W.reg
    apply oas; rfl; rfl
    apply OL.nil
    with_reducible apply At.next
    apply W.ret
    with_reducible apply At.in_ret
    with_reducible apply At.then_ret
    ((with_reducible apply At.fin1); rfl; rfl; intro w' hw')
    exact ⟨by simp [chk, show 16 < l.length by omega], by (exact hw'.toExt (by (repeat (first | exact List.Mem.head _ | apply List.Mem.tail))) (fun k hk => by (focus ((try simp only [add_block]); (repeat (first | exact NotOwned.nil | exact hno _ (by omega) | refine NotOwned.nothing ?_ | refine NotOwned.nds (hlow _ (by omega)) ?_ | refine NotOwned.mapS (by omega) ?_ | apply NotOwned.bif | refine NotOwned.blk (by omega) ?_ | refine NotOwned.row (by omega) ?_ | refine NotOwned.grid (by assumption) (by omega) ?_)); done))))⟩
  apply W.seq
  apply W.reg
  apply omv; rfl; rfl
  apply OL.op; exact Guard.none; rfl; rfl; apply Pev.len_slice; rfl; exact yes; rfl
  apply omv; rfl; rfl
  apply OL.op; exact Guard.none; rfl; rfl; apply Pev.len_slice; rfl; exact yes; rfl
  apply obn; rfl; rfl; rfl; apply Bin.neq
  apply oas; rfl; rfl
  apply OL.nil
  with_reducible apply At.next
  (refine W.cond rfl (fun h2 => ?_) (fun h2 => ?_)) <;> (try (simp only [Bool.and_eq_true, Bool.or_eq_true, Bool.not_eq_true', Bool.and_eq_false_iff, Bool.or_eq_false_iff, Bool.not_eq_false', decide_eq_true_eq, decide_eq_false_iff_not, Int.not_lt, Int.not_le] at h2)) <;> (try (exfalso; first | omega | exact h2 trivial | contradiction))
  · apply W.seq
    apply W.reg
    apply oas; rfl; rfl
    apply OL.nil
    with_reducible apply At.next
    apply W.ret
    with_reducible apply At.in_ret
    with_reducible apply At.then_ret
    ((with_reducible apply At.fin1); rfl; rfl; intro w' hw')
    exact ⟨by simp [chk, show ¬ 16 < l.length by omega, show ¬ ll.length = l.length by omega], by (exact hw'.toExt (by (repeat (first | exact List.Mem.head _ | apply List.Mem.tail))) (fun k hk => by (focus ((try simp only [add_block]); (repeat (first | exact NotOwned.nil | exact hno _ (by omega) | refine NotOwned.nothing ?_ | refine NotOwned.nds (hlow _ (by omega)) ?_ | refine NotOwned.mapS (by omega) ?_ | apply NotOwned.bif | refine NotOwned.blk (by omega) ?_ | refine NotOwned.row (by omega) ?_ | refine NotOwned.grid (by assumption) (by omega) ?_)); done))))⟩
  apply W.skip
  with_reducible apply At.in_normal
  with_reducible apply At.next
  apply W.seq
  apply W.seq
  apply W.reg
  apply omv; rfl; rfl
  apply OL.op; exact Guard.none; rfl; rfl; apply Pev.len_slice; rfl; exact yes; rfl
  apply omv; rfl; rfl
  apply OL.nil
  with_reducible apply At.next
  apply W.block
  have hsz : ∀ w2, Cls [] [w] w2 → (∀ p : Addr, p.block < w.heap.size → w2.cell? p = w.cell? p) ∧ w.heap.size ≤ w2.heap.size := fun w2 hw2 =>
    ⟨hw2.below (s := w) (by (repeat (first | exact List.Mem.head _ | apply List.Mem.tail))) (Nat.le_refl _) (fun k hk => by (focus ((try simp only [add_block]); (repeat (first | exact NotOwned.nil | exact hno _ (by omega) | refine NotOwned.nothing ?_ | refine NotOwned.nds (hlow _ (by omega)) ?_ | refine NotOwned.mapS (by omega) ?_ | apply NotOwned.bif | refine NotOwned.blk (by omega) ?_ | refine NotOwned.row (by omega) ?_ | refine NotOwned.grid (by assumption) (by omega) ?_)); done))), (hw2.kp w (by (repeat (first | exact List.Mem.head _ | apply List.Mem.tail)))).size⟩
  refine W.loop (G := Nat) (fun i => i ≤ l.length ∧ ∀ j u, j < i → l[j]? = some u → hasB (l.take j) u = false) (fun i => l.length - i)
    (fun i => [(23, true, .int .i64 (i : Int)), (22, true, .int .i64 (l.length : Int)), (21, true, .slice q l.length cap), (0, true, .slice q l.length cap), (1, true, .slice q' ll.length cap')])
    (fun i => Cls [] [w]) 0 ⟨by omega, fun j u hj => by omega⟩ (by (repeat (first | exact Sub.nil | apply Sub.cons rfl | (refine Sub.cons_eq rfl (congrArg (Value.int .i64) (by first | omega | (simp only; omega))) ?_)))) (fun w' hw' => hw') ?_
  rintro i ⟨hi, hno⟩
  apply W.seq
  apply W.reg
  apply obn; rfl; rfl; rfl; apply Bin.lss
  apply OL.nil
  with_reducible apply At.next
  apply W.seq
  (refine W.cond rfl (fun hlt => ?_) (fun hlt => ?_)) <;> (try (simp only [Bool.and_eq_true, Bool.or_eq_true, Bool.not_eq_true', Bool.and_eq_false_iff, Bool.or_eq_false_iff, Bool.not_eq_false', decide_eq_true_eq, decide_eq_false_iff_not, Int.not_lt, Int.not_le] at hlt)) <;> (try (exfalso; first | omega | exact hlt trivial | contradiction))
  · have hil : i < l.length := by omega
    obtain ⟨a, u, rfl, hab, hu, hcell⟩ := h.str hil
    have hti : (l.take i).length = i := by rw [List.length_take]; omega
    have key : ∀ w2, Cls [] [w] w2 → Calls Try.prog 7 #[.slice (some a) i cap, .string u] w2 fun e w3 => e = .returned (.bool (hasB (l.take i) u)) ∧ Cls [] [w] w3 := fun w2 hw2 => by
      have hcc := Contains_calls (some a) cap (l.take i) u w2 (by omega) ((take_at h i).keep (hsz w2 hw2).1 (hsz w2 hw2).2)
      rw [hti] at hcc
      exact hcc.mono (fun e w3 h => ⟨h.1, hw2.ext h.2⟩)
    apply W.skip
    with_reducible apply At.next
    apply W.seq
    apply W.block
    apply W.seq
    apply W.reg
    apply omv; rfl; rfl
    apply OL.op; exact Guard.none; rfl; rfl; apply Pev.idx; rfl; exact yes; rfl; exact yes; rfl; rfl; intro hcond; omega
    apply OL.op; exact Guard.none; rfl; rfl; apply Pev.load_kept; rfl; exact yes; exact .head _; rfl; intro hcond; assumption; intro hcond; (rw [add_block]; assumption); intro hcond; exact NotOwned.nil
    apply oas; rfl; rfl
    apply oas; rfl; rfl
    apply OL.nil
    with_reducible apply At.next
    apply W.seq
    apply W.reg
    apply omv; rfl; rfl
    apply omv; rfl; rfl
    apply OL.op; exact Guard.none; rfl; rfl; apply Pev.slice_hi; rfl; exact yes; rfl; exact yes; rfl; rfl; intro hcond; omega
    apply omv; rfl; rfl
    (((first | (with_reducible apply OL.op) | (with_reducible apply QL.op)); ((first | exact Guard.none | exact Guard.yes rfl rfl | exact Guard.no rfl rfl | exact Guard.cyes rfl rfl | exact Guard.cno rfl rfl)); rfl; rfl); (exact Pev.call rfl (by (repeat (first | exact Args.nil | (apply Args.cons rfl; ((first | exact fun _ => rfl | exact fun h => h | (intro h; simp_all; done))))))) (fun _ w2 hw2 => key w2 hw2)))
    apply OL.nil
    with_reducible apply At.next
    (refine W.cond rfl (fun hd => ?_) (fun hd => ?_)) <;> (try (simp only [Bool.and_eq_true, Bool.or_eq_true, Bool.not_eq_true', Bool.and_eq_false_iff, Bool.or_eq_false_iff, Bool.not_eq_false', decide_eq_true_eq, decide_eq_false_iff_not, Int.not_lt, Int.not_le] at hd)) <;> (try (exfalso; first | omega | exact hd trivial | contradiction))
    · apply W.seq
      apply W.reg
      apply oas; rfl; rfl
      apply OL.nil
      with_reducible apply At.next
      apply W.ret
      with_reducible apply At.in_ret
      with_reducible apply At.then_ret
      with_reducible apply At.then_ret
      with_reducible apply At.in_ret
      with_reducible apply At.then_ret
      ((with_reducible apply At.fin1); rfl; rfl; intro w' hw')
      exact ⟨by simp [chk, show ¬ 16 < l.length by omega, show ll.length = l.length by omega, dupA_yes hu hd], by (exact hw'.toExt (by (repeat (first | exact List.Mem.head _ | apply List.Mem.tail))) (fun k hk => by (focus ((try simp only [add_block]); (repeat (first | exact NotOwned.nil | exact hno _ (by omega) | refine NotOwned.nothing ?_ | refine NotOwned.nds (hlow _ (by omega)) ?_ | refine NotOwned.mapS (by omega) ?_ | apply NotOwned.bif | refine NotOwned.blk (by omega) ?_ | refine NotOwned.row (by omega) ?_ | refine NotOwned.grid (by assumption) (by omega) ?_)); done))))⟩
    · apply W.skip
      with_reducible apply At.in_normal
      with_reducible apply At.next
      apply W.reg
      apply obn; rfl; rfl; rfl; apply Bin.add_in; omega
      apply omv; rfl; rfl
      apply OL.nil
      refine At.again (i + 1) ⟨by omega, fun j u' hj hu' => ?_⟩ (by omega) (by (repeat (first | exact Sub.nil | apply Sub.cons rfl | (refine Sub.cons_eq rfl (congrArg (Value.int .i64) (by first | omega | (simp only; omega))) ?_)))) (fun w' hw' => hw')
      by_cases hji : j = i
      · subst hji
        rw [hu] at hu'
        rw [← Option.some.inj hu']
        simpa using hd
      · exact hno j u' (by omega) hu'
  · have hdup : dupA l = false := dupA_no fun j u hu => hno j u (by have := (List.getElem?_eq_some_iff.1 hu).1; omega) hu
    apply W.exit
    with_reducible apply At.then_exit
    with_reducible apply At.then_exit
    with_reducible apply At.in_exit
    with_reducible apply At.next
    apply W.seq
    apply W.seq
    apply W.reg
    apply omv; rfl; rfl
    apply OL.op; exact Guard.none; rfl; rfl; apply Pev.len_slice; rfl; exact yes; rfl
    apply omv; rfl; rfl
    apply OL.nil
    with_reducible apply At.next
    apply W.block
    refine W.loop (G := Nat) (fun i => i ≤ ll.length ∧ ∀ j m, j < i → ll[j]? = some m → ∀ (k : Nat) (s : ByteArray), m[k]? = some s → hasB l s = true) (fun i => ll.length - i)
      (fun i => [(36, true, .int .i64 (i : Int)), (35, true, .int .i64 (ll.length : Int)), (34, true, .slice q' ll.length cap'), (0, true, .slice q l.length cap)])
      (fun i => Cls [] [w]) 0 ⟨by omega, fun j u hj => by omega⟩ (by (repeat (first | exact Sub.nil | apply Sub.cons rfl | (refine Sub.cons_eq rfl (congrArg (Value.int .i64) (by first | omega | (simp only; omega))) ?_)))) (fun w' hw' => hw') ?_
    rintro i2 ⟨hi2, hno2⟩
    apply W.seq
    apply W.reg
    apply obn; rfl; rfl; rfl; apply Bin.lss
    apply OL.nil
    with_reducible apply At.next
    apply W.seq
    (refine W.cond rfl (fun hlt2 => ?_) (fun hlt2 => ?_)) <;> (try (simp only [Bool.and_eq_true, Bool.or_eq_true, Bool.not_eq_true', Bool.and_eq_false_iff, Bool.or_eq_false_iff, Bool.not_eq_false', decide_eq_true_eq, decide_eq_false_iff_not, Int.not_lt, Int.not_le] at hlt2)) <;> (try (exfalso; first | omega | exact hlt2 trivial | contradiction))
    · have hil : i2 < ll.length := by omega
      obtain ⟨m, hm⟩ : ∃ m, ll[i2]? = some m := ⟨_, List.getElem?_eq_getElem hil⟩
      obtain ⟨a, q2, cap2, rfl, hab, hcell, hmcap, hmlen, hms⟩ := h'.get i2 m hm
      apply W.skip
      with_reducible apply At.next
      apply W.seq
      apply W.block
      apply W.seq
      apply W.reg
      apply OL.op; exact Guard.none; rfl; rfl; apply Pev.idx; rfl; exact yes; rfl; exact yes; rfl; rfl; intro hcond; omega
      apply OL.op; exact Guard.none; rfl; rfl; apply Pev.load_kept; rfl; exact yes; exact .head _; rfl; intro hcond; assumption; intro hcond; (rw [add_block]; assumption); intro hcond; exact NotOwned.nil
      apply oas; rfl; rfl
      apply OL.nil
      with_reducible apply At.next
      apply W.seq
      apply W.reg
      apply omv; rfl; rfl
      apply OL.op; exact Guard.none; rfl; rfl; apply Pev.len_slice; rfl; exact yes; rfl
      apply omv; rfl; rfl
      apply OL.nil
      with_reducible apply At.next
      apply W.block
      refine W.loop (G := Nat) (fun k => k ≤ m.length ∧ ∀ (j : Nat) (s : ByteArray), j < k → m[j]? = some s → hasB l s = true) (fun k => m.length - k)
        (fun k => [(42, true, .int .i64 (k : Int)), (41, true, .int .i64 (m.length : Int)), (40, true, .slice q2 m.length cap2), (36, true, .int .i64 (i2 : Int)), (35, true, .int .i64 (ll.length : Int)), (34, true, .slice (some a) ll.length cap'), (0, true, .slice q l.length cap)])
        (fun k => Cls [] [w]) 0 ⟨by omega, fun j u hj => by omega⟩ (by (repeat (first | exact Sub.nil | apply Sub.cons rfl | (refine Sub.cons_eq rfl (congrArg (Value.int .i64) (by first | omega | (simp only; omega))) ?_)))) (fun w' hw' => hw') ?_
      rintro k ⟨hk, hno3⟩
      apply W.seq
      apply W.reg
      apply obn; rfl; rfl; rfl; apply Bin.lss
      apply OL.nil
      with_reducible apply At.next
      apply W.seq
      (refine W.cond rfl (fun hlt3 => ?_) (fun hlt3 => ?_)) <;> (try (simp only [Bool.and_eq_true, Bool.or_eq_true, Bool.not_eq_true', Bool.and_eq_false_iff, Bool.or_eq_false_iff, Bool.not_eq_false', decide_eq_true_eq, decide_eq_false_iff_not, Int.not_lt, Int.not_le] at hlt3)) <;> (try (exfalso; first | omega | exact hlt3 trivial | contradiction))
      · obtain ⟨a3, s, rfl, hab3, hs, hcell3⟩ := hms.str (show k < m.length by omega)
        apply W.skip
        with_reducible apply At.next
        apply W.seq
        apply W.block
        apply W.seq
        apply W.reg
        apply OL.op; exact Guard.none; rfl; rfl; apply Pev.idx; rfl; exact yes; rfl; exact yes; rfl; rfl; intro hcond; omega
        apply OL.op; exact Guard.none; rfl; rfl; apply Pev.load_kept; rfl; exact yes; exact .head _; rfl; intro hcond; assumption; intro hcond; (rw [add_block]; assumption); intro hcond; exact NotOwned.nil
        apply oas; rfl; rfl
        apply OL.nil
        with_reducible apply At.next
        apply W.seq
        apply W.reg
        apply omv; rfl; rfl
        apply omv; rfl; rfl
        (((first | (with_reducible apply OL.op) | (with_reducible apply QL.op)); ((first | exact Guard.none | exact Guard.yes rfl rfl | exact Guard.no rfl rfl | exact Guard.cyes rfl rfl | exact Guard.cno rfl rfl)); rfl; rfl); (exact Pev.call rfl (by (repeat (first | exact Args.nil | (apply Args.cons rfl; ((first | exact fun _ => rfl | exact fun h => h | (intro h; simp_all; done))))))) (fun _ w2 hw2 => (Contains_calls q cap l s w2 hlen (h.keep (hsz w2 hw2).1 (hsz w2 hw2).2)).mono (fun e w3 h => ⟨h.1, hw2.ext h.2⟩))))
        apply OL.op; exact Guard.none; rfl; rfl; apply Pev.not; rfl; exact yes
        apply OL.nil
        with_reducible apply At.next
        (refine W.cond rfl (fun hd => ?_) (fun hd => ?_)) <;> (try (simp only [Bool.and_eq_true, Bool.or_eq_true, Bool.not_eq_true', Bool.and_eq_false_iff, Bool.or_eq_false_iff, Bool.not_eq_false', decide_eq_true_eq, decide_eq_false_iff_not, Int.not_lt, Int.not_le] at hd)) <;> (try (exfalso; first | omega | exact hd trivial | contradiction))
        · apply W.seq
          apply W.reg
          apply oas; rfl; rfl
          apply OL.nil
          with_reducible apply At.next
          apply W.ret
          with_reducible apply At.in_ret
          with_reducible apply At.then_ret
          with_reducible apply At.then_ret
          with_reducible apply At.in_ret
          with_reducible apply At.in_ret
          with_reducible apply At.then_ret
          with_reducible apply At.then_ret
          with_reducible apply At.in_ret
          with_reducible apply At.then_ret
          ((with_reducible apply At.fin1); rfl; rfl; intro w' hw')
          exact ⟨by simp [chk, show ¬ 16 < l.length by omega, show ll.length = l.length by omega, hdup, miss_yes hm hs (by simpa using hd)], by (exact hw'.toExt (by (repeat (first | exact List.Mem.head _ | apply List.Mem.tail))) (fun k hk => by (focus ((try simp only [add_block]); (repeat (first | exact NotOwned.nil | exact hno _ (by omega) | refine NotOwned.nothing ?_ | refine NotOwned.nds (hlow _ (by omega)) ?_ | refine NotOwned.mapS (by omega) ?_ | apply NotOwned.bif | refine NotOwned.blk (by omega) ?_ | refine NotOwned.row (by omega) ?_ | refine NotOwned.grid (by assumption) (by omega) ?_)); done))))⟩
        · apply W.skip
          with_reducible apply At.in_normal
          with_reducible apply At.next
          apply W.reg
          apply obn; rfl; rfl; rfl; apply Bin.add_in; omega
          apply omv; rfl; rfl
          apply OL.nil
          refine At.again (k + 1) ⟨by omega, fun j s' hj hs' => ?_⟩ (by omega) (by (repeat (first | exact Sub.nil | apply Sub.cons rfl | (refine Sub.cons_eq rfl (congrArg (Value.int .i64) (by first | omega | (simp only; omega))) ?_)))) (fun w' hw' => hw')
          by_cases hjk : j = k
          · subst hjk
            rw [hs] at hs'
            rw [← Option.some.inj hs']
            simpa using hd
          · exact hno3 j s' (by omega) hs'
      · apply W.exit
        with_reducible apply At.then_exit
        with_reducible apply At.then_exit
        with_reducible apply At.in_exit
        with_reducible apply At.in_normal
        with_reducible apply At.next
        apply W.reg
        apply obn; rfl; rfl; rfl; apply Bin.add_in; omega
        apply omv; rfl; rfl
        apply OL.nil
        refine At.again (i2 + 1) ⟨by omega, fun j m' hj hm' k' s' hs' => ?_⟩ (by omega) (by (repeat (first | exact Sub.nil | apply Sub.cons rfl | (refine Sub.cons_eq rfl (congrArg (Value.int .i64) (by first | omega | (simp only; omega))) ?_)))) (fun w' hw' => hw')
        by_cases hji : j = i2
        · subst hji
          rw [hm] at hm'
          obtain rfl := Option.some.inj hm'
          exact hno3 k' s' (by have := (List.getElem?_eq_some_iff.1 hs').1; omega) hs'
        · exact hno2 j m' (by omega) hm' k' s' hs'
    · apply W.exit
      with_reducible apply At.then_exit
      with_reducible apply At.then_exit
      with_reducible apply At.in_exit
      with_reducible apply At.next
      apply W.seq
      apply W.reg
      apply oas; rfl; rfl
      apply OL.nil
      with_reducible apply At.next
      apply W.ret
      ((with_reducible apply At.fin1); rfl; rfl; intro w' hw')
      have hmiss : miss l ll = false := miss_no fun j m hm => hno2 j m (by have := (List.getElem?_eq_some_iff.1 hm).1; omega) hm
      exact ⟨by simp [chk, show ¬ 16 < l.length by omega, show ll.length = l.length by omega, hdup, hmiss], by (exact hw'.toExt (by (repeat (first | exact List.Mem.head _ | apply List.Mem.tail))) (fun k hk => by (focus ((try simp only [add_block]); (repeat (first | exact NotOwned.nil | exact hno _ (by omega) | refine NotOwned.nothing ?_ | refine NotOwned.nds (hlow _ (by omega)) ?_ | refine NotOwned.mapS (by omega) ?_ | apply NotOwned.bif | refine NotOwned.blk (by omega) ?_ | refine NotOwned.row (by omega) ?_ | refine NotOwned.grid (by assumption) (by omega) ?_)); done))))⟩

theorem Err_calls (q q' : Option Addr) (cap cap' : Nat) (l : List ByteArray) (ll : List (List ByteArray)) (w : World) (hlen : l.length ≤ 9223372036854775807) (hcap : l.length ≤ cap) (h : SlAt w w.heap.size q (strs l))
    (hlen' : ll.length ≤ 9223372036854775807) (h' : StrRows w w.heap.size q' ll) :
    Calls Try.prog 6 #[.slice q l.length cap, .slice q' ll.length cap'] w fun e w' => e = .returned (.int .i64 (err l ll)) ∧ Ext w w' := by
  refine enter Try.func6 rfl Try.ntmps6 rfl (Cls.start w) ?_
  (simp only [argEnv, Nat.zero_add, Nat.reduceAdd])
  apply W.seq
  apply W.reg
  apply oas; rfl; rfl
  apply OL.nil
  with_reducible apply At.next
  apply W.seq
  apply W.seq
  apply W.reg
  apply omv; rfl; rfl
  apply OL.op; exact Guard.none; rfl; rfl; apply Pev.len_slice; rfl; exact yes; rfl
  apply obn; rfl; rfl; rfl; apply Bin.gtr
  apply OL.nil
  with_reducible apply At.next
  (refine W.cond rfl (fun h1 => ?_) (fun h1 => ?_)) <;> (try (simp only [Bool.and_eq_true, Bool.or_eq_true, Bool.not_eq_true', Bool.and_eq_false_iff, Bool.or_eq_false_iff, Bool.not_eq_false', decide_eq_true_eq, decide_eq_false_iff_not, Int.not_lt, Int.not_le] at h1)) <;> (try (exfalso; first | omega | exact h1 trivial | contradiction))
  · apply W.seq
    apply W.reg
    apply oas; rfl; rfl
    apply OL.nil
    with_reducible apply At.next
    apply W.ret
    with_reducible apply At.then_ret
    ((with_reducible apply At.fin1); rfl; rfl; intro w' hw')
    exact ⟨by simp [err, show 16 < l.length by omega], by (exact hw'.toExt (by (repeat (first | exact List.Mem.head _ | apply List.Mem.tail))) (fun k hk => by (focus ((try simp only [add_block]); (repeat (first | exact NotOwned.nil | exact hno _ (by omega) | refine NotOwned.nothing ?_ | refine NotOwned.nds (hlow _ (by omega)) ?_ | refine NotOwned.mapS (by omega) ?_ | apply NotOwned.bif | refine NotOwned.blk (by omega) ?_ | refine NotOwned.row (by omega) ?_ | refine NotOwned.grid (by assumption) (by omega) ?_)); done))))⟩
  apply W.skip
  with_reducible apply At.next
  apply W.seq
  apply W.seq
  apply W.reg
  apply omv; rfl; rfl
  apply OL.op; exact Guard.none; rfl; rfl; apply Pev.len_slice; rfl; exact yes; rfl
  apply omv; rfl; rfl
  apply OL.op; exact Guard.none; rfl; rfl; apply Pev.len_slice; rfl; exact yes; rfl
  apply obn; rfl; rfl; rfl; apply Bin.neq
  apply OL.nil
  with_reducible apply At.next
  (refine W.cond rfl (fun h2 => ?_) (fun h2 => ?_)) <;> (try (simp only [Bool.and_eq_true, Bool.or_eq_true, Bool.not_eq_true', Bool.and_eq_false_iff, Bool.or_eq_false_iff, Bool.not_eq_false', decide_eq_true_eq, decide_eq_false_iff_not, Int.not_lt, Int.not_le] at h2)) <;> (try (exfalso; first | omega | exact h2 trivial | contradiction))
  · apply W.seq
    apply W.reg
    apply oas; rfl; rfl
    apply OL.nil
    with_reducible apply At.next
    apply W.ret
    with_reducible apply At.then_ret
    ((with_reducible apply At.fin1); rfl; rfl; intro w' hw')
    exact ⟨by simp [err, show ¬ 16 < l.length by omega, show ¬ l.length = ll.length by omega], by (exact hw'.toExt (by (repeat (first | exact List.Mem.head _ | apply List.Mem.tail))) (fun k hk => by (focus ((try simp only [add_block]); (repeat (first | exact NotOwned.nil | exact hno _ (by omega) | refine NotOwned.nothing ?_ | refine NotOwned.nds (hlow _ (by omega)) ?_ | refine NotOwned.mapS (by omega) ?_ | apply NotOwned.bif | refine NotOwned.blk (by omega) ?_ | refine NotOwned.row (by omega) ?_ | refine NotOwned.grid (by assumption) (by omega) ?_)); done))))⟩
  apply W.skip
  with_reducible apply At.next
  apply W.seq
  apply W.seq
  apply W.reg
  apply omv; rfl; rfl
  apply OL.op; exact Guard.none; rfl; rfl; apply Pev.len_slice; rfl; exact yes; rfl
  apply omv; rfl; rfl
  apply OL.nil
  with_reducible apply At.next
  apply W.block
  have hsz : ∀ w2, Cls [] [w] w2 → (∀ p : Addr, p.block < w.heap.size → w2.cell? p = w.cell? p) ∧ w.heap.size ≤ w2.heap.size := fun w2 hw2 =>
    ⟨hw2.below (s := w) (by (repeat (first | exact List.Mem.head _ | apply List.Mem.tail))) (Nat.le_refl _) (fun k hk => by (focus ((try simp only [add_block]); (repeat (first | exact NotOwned.nil | exact hno _ (by omega) | refine NotOwned.nothing ?_ | refine NotOwned.nds (hlow _ (by omega)) ?_ | refine NotOwned.mapS (by omega) ?_ | apply NotOwned.bif | refine NotOwned.blk (by omega) ?_ | refine NotOwned.row (by omega) ?_ | refine NotOwned.grid (by assumption) (by omega) ?_)); done))), (hw2.kp w (by (repeat (first | exact List.Mem.head _ | apply List.Mem.tail)))).size⟩
  refine W.loop (G := Nat) (fun i => i ≤ l.length ∧ ∀ j u, j < i → l[j]? = some u → hasB (l.drop (j + 1)) u = false) (fun i => l.length - i)
    (fun i => [(20, true, .int .i64 (i : Int)), (19, true, .int .i64 (l.length : Int)), (0, true, .slice q l.length cap), (1, true, .slice q' ll.length cap')])
    (fun i => Cls [] [w]) 0 ⟨by omega, fun j u hj => by omega⟩ (by (repeat (first | exact Sub.nil | apply Sub.cons rfl | (refine Sub.cons_eq rfl (congrArg (Value.int .i64) (by first | omega | (simp only; omega))) ?_)))) (fun w' hw' => hw') ?_
  rintro i ⟨hi, hno⟩
  apply W.seq
  apply W.reg
  apply obn; rfl; rfl; rfl; apply Bin.lss
  apply OL.nil
  with_reducible apply At.next
  apply W.seq
  (refine W.cond rfl (fun hlt => ?_) (fun hlt => ?_)) <;> (try (simp only [Bool.and_eq_true, Bool.or_eq_true, Bool.not_eq_true', Bool.and_eq_false_iff, Bool.or_eq_false_iff, Bool.not_eq_false', decide_eq_true_eq, decide_eq_false_iff_not, Int.not_lt, Int.not_le] at hlt)) <;> (try (exfalso; first | omega | exact hlt trivial | contradiction))
  · have hil : i < l.length := by omega
    obtain ⟨a, u, rfl, hab, hu, hcell⟩ := h.str hil
    have hti : (l.drop (i + 1)).length = l.length - (i + 1) := by rw [List.length_drop]
    have key : ∀ w2, Cls [] [w] w2 → Calls Try.prog 17 #[.slice (cutq (some a) cap (i + 1) 1) (l.length - (i + 1)) (cap - (i + 1)), .string u] w2 fun e w3 => e = .returned (.bool (hasB (l.drop (i + 1)) u)) ∧ Cls [] [w] w3 := fun w2 hw2 => by
      have hcc := has_calls (cutq (some a) cap (i + 1) 1) (cap - (i + 1)) (l.drop (i + 1)) u w2 (by omega) ((drop_at h hcap (i + 1)).keep (hsz w2 hw2).1 (hsz w2 hw2).2)
      rw [hti] at hcc
      exact hcc.mono (fun e w3 h => ⟨h.1, hw2.ext h.2⟩)
    apply W.skip
    with_reducible apply At.next
    apply W.seq
    apply W.block
    apply W.seq
    apply W.reg
    apply omv; rfl; rfl
    apply oas; rfl; rfl
    apply OL.nil
    with_reducible apply At.next
    apply W.seq
    apply W.regd0; decide +kernel; kernel_rfl; decide +kernel; exact fun w hw => hw.drew
    apply qmv; rfl; rfl
    apply qmv; rfl; rfl
    apply qbn; rfl; rfl; rfl; apply Bin.add_in; omega
    apply QL.op; exact Guard.none; rfl; rfl; apply Pev.slice_lo; rfl; exact yes; rfl; exact yes; rfl; rfl; intro hcond; (simp only [Bool.and_eq_true, Bool.or_eq_true, Bool.not_eq_true', decide_eq_true_eq, decide_eq_false_iff_not] at *; omega)
    apply qmv; rfl; rfl
    apply qmv; rfl; rfl
    apply QL.op; exact Guard.none; rfl; rfl; apply Pev.idx; rfl; exact yes; rfl; exact yes; rfl; rfl; intro hcond; omega
    apply QL.op; exact Guard.none; rfl; rfl; apply Pev.load_kept; rfl; exact yes; exact .head _; rfl; intro hcond; assumption; intro hcond; (rw [add_block]; assumption); intro hcond; exact NotOwned.nil
    (((first | (with_reducible apply OL.op) | (with_reducible apply QL.op)); ((first | exact Guard.none | exact Guard.yes rfl rfl | exact Guard.no rfl rfl | exact Guard.cyes rfl rfl | exact Guard.cno rfl rfl)); rfl; rfl); (exact Pev.call rfl (by (repeat (first | exact Args.nil | (apply Args.cons rfl; ((first | exact fun _ => rfl | exact fun h => h | (intro h; simp_all; done))))))) (fun _ w2 hw2 => key w2 hw2)))
    apply QL.nil
    with_reducible apply At.next
    (refine W.cond rfl (fun hd => ?_) (fun hd => ?_)) <;> (try (simp only [Bool.and_eq_true, Bool.or_eq_true, Bool.not_eq_true', Bool.and_eq_false_iff, Bool.or_eq_false_iff, Bool.not_eq_false', decide_eq_true_eq, decide_eq_false_iff_not, Int.not_lt, Int.not_le] at hd)) <;> (try (exfalso; first | omega | exact hd trivial | contradiction))
    · apply W.seq
      apply W.reg
      apply oas; rfl; rfl
      apply OL.nil
      with_reducible apply At.next
      apply W.ret
      with_reducible apply At.in_ret
      with_reducible apply At.then_ret
      with_reducible apply At.then_ret
      with_reducible apply At.in_ret
      with_reducible apply At.then_ret
      ((with_reducible apply At.fin1); rfl; rfl; intro w' hw')
      exact ⟨by simp [err, show ¬ 16 < l.length by omega, show l.length = ll.length by omega, show ¬ 16 < ll.length by omega, dupB_yes hu hd], by (exact hw'.toExt (by (repeat (first | exact List.Mem.head _ | apply List.Mem.tail))) (fun k hk => by (focus ((try simp only [add_block]); (repeat (first | exact NotOwned.nil | exact hno _ (by omega) | refine NotOwned.nothing ?_ | refine NotOwned.nds (hlow _ (by omega)) ?_ | refine NotOwned.mapS (by omega) ?_ | apply NotOwned.bif | refine NotOwned.blk (by omega) ?_ | refine NotOwned.row (by omega) ?_ | refine NotOwned.grid (by assumption) (by omega) ?_)); done))))⟩
    · apply W.skip
      with_reducible apply At.in_normal
      with_reducible apply At.next
      apply W.reg
      apply obn; rfl; rfl; rfl; apply Bin.add_in; omega
      apply omv; rfl; rfl
      apply OL.nil
      refine At.again (i + 1) ⟨by omega, fun j u' hj hu' => ?_⟩ (by omega) (by (repeat (first | exact Sub.nil | apply Sub.cons rfl | (refine Sub.cons_eq rfl (congrArg (Value.int .i64) (by first | omega | (simp only; omega))) ?_)))) (fun w' hw' => hw')
      by_cases hji : j = i
      · subst hji
        rw [hu] at hu'
        rw [← Option.some.inj hu']
        simpa using hd
      · exact hno j u' (by omega) hu'
  · have hdup : dupB l = false := dupB_no fun j u hu => hno j u (by have := (List.getElem?_eq_some_iff.1 hu).1; omega) hu
    apply W.exit
    with_reducible apply At.then_exit
    with_reducible apply At.then_exit
    with_reducible apply At.in_exit
    with_reducible apply At.next
    apply W.seq
    apply W.seq
    apply W.reg
    apply omv; rfl; rfl
    apply OL.op; exact Guard.none; rfl; rfl; apply Pev.len_slice; rfl; exact yes; rfl
    apply omv; rfl; rfl
    apply OL.nil
    with_reducible apply At.next
    apply W.block
    refine W.loop (G := Nat) (fun i => i ≤ ll.length ∧ ∀ j m, j < i → ll[j]? = some m → ∀ (k : Nat) (s : ByteArray), m[k]? = some s → hasB l s = true) (fun i => ll.length - i)
      (fun i => [(35, true, .int .i64 (i : Int)), (34, true, .int .i64 (ll.length : Int)), (33, true, .slice q' ll.length cap'), (0, true, .slice q l.length cap)])
      (fun i => Cls [] [w]) 0 ⟨by omega, fun j u hj => by omega⟩ (by (repeat (first | exact Sub.nil | apply Sub.cons rfl | (refine Sub.cons_eq rfl (congrArg (Value.int .i64) (by first | omega | (simp only; omega))) ?_)))) (fun w' hw' => hw') ?_
    rintro i2 ⟨hi2, hno2⟩
    apply W.seq
    apply W.reg
    apply obn; rfl; rfl; rfl; apply Bin.lss
    apply OL.nil
    with_reducible apply At.next
    apply W.seq
    (refine W.cond rfl (fun hlt2 => ?_) (fun hlt2 => ?_)) <;> (try (simp only [Bool.and_eq_true, Bool.or_eq_true, Bool.not_eq_true', Bool.and_eq_false_iff, Bool.or_eq_false_iff, Bool.not_eq_false', decide_eq_true_eq, decide_eq_false_iff_not, Int.not_lt, Int.not_le] at hlt2)) <;> (try (exfalso; first | omega | exact hlt2 trivial | contradiction))
    · have hil : i2 < ll.length := by omega
      obtain ⟨m, hm⟩ : ∃ m, ll[i2]? = some m := ⟨_, List.getElem?_eq_getElem hil⟩
      obtain ⟨a, q2, cap2, rfl, hab, hcell, hmcap, hmlen, hms⟩ := h'.get i2 m hm
      apply W.skip
      with_reducible apply At.next
      apply W.seq
      apply W.block
      apply W.seq
      apply W.reg
      apply OL.op; exact Guard.none; rfl; rfl; apply Pev.idx; rfl; exact yes; rfl; exact yes; rfl; rfl; intro hcond; omega
      apply OL.op; exact Guard.none; rfl; rfl; apply Pev.load_kept; rfl; exact yes; exact .head _; rfl; intro hcond; assumption; intro hcond; (rw [add_block]; assumption); intro hcond; exact NotOwned.nil
      apply oas; rfl; rfl
      apply OL.nil
      with_reducible apply At.next
      apply W.seq
      apply W.reg
      apply omv; rfl; rfl
      apply OL.op; exact Guard.none; rfl; rfl; apply Pev.len_slice; rfl; exact yes; rfl
      apply omv; rfl; rfl
      apply OL.nil
      with_reducible apply At.next
      apply W.block
      refine W.loop (G := Nat) (fun k => k ≤ m.length ∧ ∀ (j : Nat) (s : ByteArray), j < k → m[j]? = some s → hasB l s = true) (fun k => m.length - k)
        (fun k => [(41, true, .int .i64 (k : Int)), (40, true, .int .i64 (m.length : Int)), (39, true, .slice q2 m.length cap2), (35, true, .int .i64 (i2 : Int)), (34, true, .int .i64 (ll.length : Int)), (33, true, .slice (some a) ll.length cap'), (0, true, .slice q l.length cap)])
        (fun k => Cls [] [w]) 0 ⟨by omega, fun j u hj => by omega⟩ (by (repeat (first | exact Sub.nil | apply Sub.cons rfl | (refine Sub.cons_eq rfl (congrArg (Value.int .i64) (by first | omega | (simp only; omega))) ?_)))) (fun w' hw' => hw') ?_
      rintro k ⟨hk, hno3⟩
      apply W.seq
      apply W.reg
      apply obn; rfl; rfl; rfl; apply Bin.lss
      apply OL.nil
      with_reducible apply At.next
      apply W.seq
      (refine W.cond rfl (fun hlt3 => ?_) (fun hlt3 => ?_)) <;> (try (simp only [Bool.and_eq_true, Bool.or_eq_true, Bool.not_eq_true', Bool.and_eq_false_iff, Bool.or_eq_false_iff, Bool.not_eq_false', decide_eq_true_eq, decide_eq_false_iff_not, Int.not_lt, Int.not_le] at hlt3)) <;> (try (exfalso; first | omega | exact hlt3 trivial | contradiction))
      · obtain ⟨a3, s, rfl, hab3, hs, hcell3⟩ := hms.str (show k < m.length by omega)
        apply W.skip
        with_reducible apply At.next
        apply W.seq
        apply W.block
        apply W.seq
        apply W.reg
        apply OL.op; exact Guard.none; rfl; rfl; apply Pev.idx; rfl; exact yes; rfl; exact yes; rfl; rfl; intro hcond; omega
        apply OL.op; exact Guard.none; rfl; rfl; apply Pev.load_kept; rfl; exact yes; exact .head _; rfl; intro hcond; assumption; intro hcond; (rw [add_block]; assumption); intro hcond; exact NotOwned.nil
        apply oas; rfl; rfl
        apply OL.nil
        with_reducible apply At.next
        apply W.seq
        apply W.reg
        apply omv; rfl; rfl
        apply omv; rfl; rfl
        (((first | (with_reducible apply OL.op) | (with_reducible apply QL.op)); ((first | exact Guard.none | exact Guard.yes rfl rfl | exact Guard.no rfl rfl | exact Guard.cyes rfl rfl | exact Guard.cno rfl rfl)); rfl; rfl); (exact Pev.call rfl (by (repeat (first | exact Args.nil | (apply Args.cons rfl; ((first | exact fun _ => rfl | exact fun h => h | (intro h; simp_all; done))))))) (fun _ w2 hw2 => (has_calls q cap l s w2 hlen (h.keep (hsz w2 hw2).1 (hsz w2 hw2).2)).mono (fun e w3 h => ⟨h.1, hw2.ext h.2⟩))))
        apply OL.op; exact Guard.none; rfl; rfl; apply Pev.not; rfl; exact yes
        apply OL.nil
        with_reducible apply At.next
        (refine W.cond rfl (fun hd => ?_) (fun hd => ?_)) <;> (try (simp only [Bool.and_eq_true, Bool.or_eq_true, Bool.not_eq_true', Bool.and_eq_false_iff, Bool.or_eq_false_iff, Bool.not_eq_false', decide_eq_true_eq, decide_eq_false_iff_not, Int.not_lt, Int.not_le] at hd)) <;> (try (exfalso; first | omega | exact hd trivial | contradiction))
        · apply W.seq
          apply W.reg
          apply oas; rfl; rfl
          apply OL.nil
          with_reducible apply At.next
          apply W.ret
          with_reducible apply At.in_ret
          with_reducible apply At.then_ret
          with_reducible apply At.then_ret
          with_reducible apply At.in_ret
          with_reducible apply At.in_ret
          with_reducible apply At.then_ret
          with_reducible apply At.then_ret
          with_reducible apply At.in_ret
          with_reducible apply At.then_ret
          ((with_reducible apply At.fin1); rfl; rfl; intro w' hw')
          exact ⟨by simp [err, show ¬ 16 < l.length by omega, show l.length = ll.length by omega, show ¬ 16 < ll.length by omega, hdup, miss_yes hm hs (by simpa using hd)], by (exact hw'.toExt (by (repeat (first | exact List.Mem.head _ | apply List.Mem.tail))) (fun k hk => by (focus ((try simp only [add_block]); (repeat (first | exact NotOwned.nil | exact hno _ (by omega) | refine NotOwned.nothing ?_ | refine NotOwned.nds (hlow _ (by omega)) ?_ | refine NotOwned.mapS (by omega) ?_ | apply NotOwned.bif | refine NotOwned.blk (by omega) ?_ | refine NotOwned.row (by omega) ?_ | refine NotOwned.grid (by assumption) (by omega) ?_)); done))))⟩
        · apply W.skip
          with_reducible apply At.in_normal
          with_reducible apply At.next
          apply W.reg
          apply obn; rfl; rfl; rfl; apply Bin.add_in; omega
          apply omv; rfl; rfl
          apply OL.nil
          refine At.again (k + 1) ⟨by omega, fun j s' hj hs' => ?_⟩ (by omega) (by (repeat (first | exact Sub.nil | apply Sub.cons rfl | (refine Sub.cons_eq rfl (congrArg (Value.int .i64) (by first | omega | (simp only; omega))) ?_)))) (fun w' hw' => hw')
          by_cases hjk : j = k
          · subst hjk
            rw [hs] at hs'
            rw [← Option.some.inj hs']
            simpa using hd
          · exact hno3 j s' (by omega) hs'
      · apply W.exit
        with_reducible apply At.then_exit
        with_reducible apply At.then_exit
        with_reducible apply At.in_exit
        with_reducible apply At.in_normal
        with_reducible apply At.next
        apply W.reg
        apply obn; rfl; rfl; rfl; apply Bin.add_in; omega
        apply omv; rfl; rfl
        apply OL.nil
        refine At.again (i2 + 1) ⟨by omega, fun j m' hj hm' k' s' hs' => ?_⟩ (by omega) (by (repeat (first | exact Sub.nil | apply Sub.cons rfl | (refine Sub.cons_eq rfl (congrArg (Value.int .i64) (by first | omega | (simp only; omega))) ?_)))) (fun w' hw' => hw')
        by_cases hji : j = i2
        · subst hji
          rw [hm] at hm'
          obtain rfl := Option.some.inj hm'
          exact hno3 k' s' (by have := (List.getElem?_eq_some_iff.1 hs').1; omega) hs'
        · exact hno2 j m' (by omega) hm' k' s' hs'
    · apply W.exit
      with_reducible apply At.then_exit
      with_reducible apply At.then_exit
      with_reducible apply At.in_exit
      with_reducible apply At.next
      apply W.seq
      apply W.reg
      apply oas; rfl; rfl
      apply OL.nil
      with_reducible apply At.next
      apply W.ret
      ((with_reducible apply At.fin1); rfl; rfl; intro w' hw')
      have hmiss : miss l ll = false := miss_no fun j m hm => hno2 j m (by have := (List.getElem?_eq_some_iff.1 hm).1; omega) hm
      exact ⟨by simp [err, show ¬ 16 < l.length by omega, show l.length = ll.length by omega, show ¬ 16 < ll.length by omega, hdup, hmiss], by (exact hw'.toExt (by (repeat (first | exact List.Mem.head _ | apply List.Mem.tail))) (fun k hk => by (focus ((try simp only [add_block]); (repeat (first | exact NotOwned.nil | exact hno _ (by omega) | refine NotOwned.nothing ?_ | refine NotOwned.nds (hlow _ (by omega)) ?_ | refine NotOwned.mapS (by omega) ?_ | apply NotOwned.bif | refine NotOwned.blk (by omega) ?_ | refine NotOwned.row (by omega) ?_ | refine NotOwned.grid (by assumption) (by omega) ?_)); done))))⟩
end Go.Proofs.Ytgllgllbgojhfaa.mo
