/- The walk of slices.Equal at []string; how the reference's list and the store's state are one; where two ways meet in a state that is told. Conditions: none. -/
import Derived.Test.YtlcclcakdfmgkaaStE
import Derived.Test.YtlcclcakdfmgkaaStT
import Derived.Test.YtlcclcakdfmgkaaStr
namespace Go.Eng
section
variable {P : Program} {n : Nat} {l : Env} {C : World → Prop} {Q : Exit → Act → World → Prop}
theorem W.joinx {G : Type} {code r : Code} (Φ : G → Prop) (lg : G → Env) (Cg : G → World → Prop) (h1 : W P n code (Exit.then (fun a w => ∃ g, Φ g ∧ Sees n (lg g) a ∧ Cg g w) Q) l C) (h2 : ∀ g, Φ g → W P n r Q (lg g) (Cg g)) : W P n code (Exit.then (r.wp P Q) Q) l C :=
  ⟨fun a w hs hc => wp_mono (h1.run a w hs hc) fun e a' w' hq => by
    cases e with
    | normal =>
      obtain ⟨g, hg, hs', hc'⟩ := hq
      exact (h2 g hg).run a' w' hs' hc'
    | _ => exact hq⟩
theorem At.joinedx {G : Type} {Φ : G → Prop} {lg : G → Env} {Cg : G → World → Prop} (g : G) (hg : Φ g) (hs : Sub l (lg g)) (hc : ∀ w, C w → Cg g w) : At n (Exit.then (fun a w => ∃ g, Φ g ∧ Sees n (lg g) a ∧ Cg g w) Q) .normal l C := ⟨fun a w s c => ⟨g, hg, s.sub hs, hc w c⟩⟩
end
end Go.Eng
namespace Go.Proofs.Ytlcclcakdfmgkaa.st
open Go.RowKit Go.Eng Go.St
set_option linter.unusedVariables false
set_option linter.unusedSimpArgs false
set_option maxRecDepth 100000

theorem str_at {w : World} {B : Nat} {q : Option Addr} {l : List BA} (h : SlAt w B q (strs l)) {i : Nat} (hi : i < l.length) :
    ∃ a u, q = some a ∧ a.block < B ∧ l[i]? = some u ∧ w.cell? (a.add (i * 1)) = some (.string u) := by
  obtain ⟨a, rfl, hab, hc⟩ := h (by simp [strs]; omega)
  have hs : l[i]? = some l[i] := List.getElem?_eq_getElem hi
  exact ⟨a, l[i], rfl, hab, hs, by rw [Nat.mul_one]; exact hc i _ (by simp [strs, hs])⟩
theorem SEqual_calls (q1 q2 : Option Addr) (cap1 cap2 : Nat) (l1 l2 : List BA) (w : World) (hl1 : l1.length ≤ 9223372036854775807) (hl2 : l2.length ≤ 9223372036854775807) (h1 : SlAt w w.heap.size q1 (strs l1)) (h2 : SlAt w w.heap.size q2 (strs l2)) :
    Calls Try.prog 14 #[.slice q1 l1.length cap1, .slice q2 l2.length cap2] w fun e w' => e = .returned (.bool (decide (l1 = l2))) ∧ Ext w w' := by
  refine enter Try.func14 rfl Try.ntmps14 rfl (Cls.start w) ?_
  (simp only [argEnv, Nat.zero_add, Nat.reduceAdd])
  apply W.seq
  apply W.reg
  apply oas; rfl; rfl
  apply OL.nil
  with_reducible apply At.next
  apply W.seq
  apply W.seq
  apply W.reg
  apply omv; rfl; rfl
  apply OL.op; exact Guard.none; rfl; rfl; apply Pev.len_slice; rfl; exact yes; rfl
  apply omv; rfl; rfl
  apply OL.op; exact Guard.none; rfl; rfl; apply Pev.len_slice; rfl; exact yes; rfl
  apply obn; rfl; rfl; rfl; apply Bin.neq
  apply OL.nil
  with_reducible apply At.next
  (refine W.cond rfl (fun hne => ?_) (fun hne => ?_)) <;> (try (simp only [Bool.and_eq_true, Bool.or_eq_true, Bool.not_eq_true', Bool.and_eq_false_iff, Bool.or_eq_false_iff, Bool.not_eq_false', decide_eq_true_eq, decide_eq_false_iff_not, Int.not_lt, Int.not_le] at hne)) <;> (try (exfalso; first | omega | exact hne trivial | contradiction))
  · apply W.seq
    apply W.reg
    apply oas; rfl; rfl
    apply OL.nil
    with_reducible apply At.next
    apply W.ret
    with_reducible apply At.then_ret
    ((with_reducible apply At.fin1); rfl; rfl; intro w' hw')
    have : ¬ l1 = l2 := fun e => by subst e; exact hne rfl
    exact ⟨by simp [this], by (exact hw'.toExt (by (repeat (first | exact List.Mem.head _ | apply List.Mem.tail))) (fun k hk => by (focus ((try simp only [add_block]); (repeat (first | exact NotOwned.nil | exact hno _ (by omega) | refine NotOwned.nothing ?_ | refine NotOwned.nds (hlow _ (by omega)) ?_ | refine NotOwned.mapS (by omega) ?_ | apply NotOwned.bif | refine NotOwned.blk (by omega) ?_ | refine NotOwned.row (by omega) ?_ | refine NotOwned.grid (by assumption) (by omega) ?_)); done))))⟩
  apply W.skip
  with_reducible apply At.next
  apply W.seq
  apply W.seq
  apply W.reg
  apply omv; rfl; rfl
  apply OL.op; exact Guard.none; rfl; rfl; apply Pev.len_slice; rfl; exact yes; rfl
  apply omv; rfl; rfl
  apply OL.nil
  with_reducible apply At.next
  apply W.block
  refine W.loop (G := Nat) (fun i => i ≤ l1.length ∧ ∀ j, j < i → l1[j]? = l2[j]?) (fun i => l1.length - i)
    (fun i => [(13, true, .int .i64 (i : Int)), (12, true, .int .i64 (l1.length : Int)), (0, true, .slice q1 l1.length cap1), (1, true, .slice q2 l2.length cap2)])
    (fun i => Cls [] [w]) 0 ⟨by omega, fun j hj => by omega⟩ (by (repeat (first | exact Sub.nil | apply Sub.cons rfl))) (fun w' hw' => hw') ?_
  rintro i ⟨hi, hsame⟩
  apply W.seq
  apply W.reg
  apply obn; rfl; rfl; rfl; apply Bin.lss
  apply OL.nil
  with_reducible apply At.next
  apply W.seq
  (refine W.cond rfl (fun hlt => ?_) (fun hlt => ?_)) <;> (try (simp only [Bool.and_eq_true, Bool.or_eq_true, Bool.not_eq_true', Bool.and_eq_false_iff, Bool.or_eq_false_iff, Bool.not_eq_false', decide_eq_true_eq, decide_eq_false_iff_not, Int.not_lt, Int.not_le] at hlt)) <;> (try (exfalso; first | omega | exact hlt trivial | contradiction))
  · obtain ⟨a, u, rfl, hab, hu, hcell⟩ := str_at h1 (show i < l1.length by omega)
    obtain ⟨a2, u2, rfl, hab2, hu2, hcell2⟩ := str_at h2 (show i < l2.length by omega)
    apply W.skip
    with_reducible apply At.next
    apply W.seq
    apply W.block
    apply W.seq
    apply W.reg
    apply omv; rfl; rfl
    apply oas; rfl; rfl
    apply OL.nil
    with_reducible apply At.next
    apply W.seq
    apply W.regd0; decide +kernel; kernel_rfl; decide +kernel; exact fun w hw => hw.drew
    apply qmv; rfl; rfl
    apply qmv; rfl; rfl
    apply QL.op; exact Guard.none; rfl; rfl; apply Pev.idx; rfl; exact yes; rfl; exact yes; rfl; rfl; intro hcond; omega
    apply QL.op; exact Guard.none; rfl; rfl; apply Pev.load_kept; rfl; exact yes; exact .head _; rfl; intro hcond; assumption; intro hcond; (rw [add_block]; assumption); intro hcond; exact NotOwned.nil
    apply qmv; rfl; rfl
    apply qmv; rfl; rfl
    apply QL.op; exact Guard.none; rfl; rfl; apply Pev.idx; rfl; exact yes; rfl; exact yes; rfl; rfl; intro hcond; omega
    apply QL.op; exact Guard.none; rfl; rfl; apply Pev.load_kept; rfl; exact yes; exact .head _; rfl; intro hcond; assumption; intro hcond; (rw [add_block]; assumption); intro hcond; exact NotOwned.nil
    apply qbn; rfl; rfl; rfl; apply Bin.str_neq
    apply QL.nil
    with_reducible apply At.next
    (refine W.cond rfl (fun hd => ?_) (fun hd => ?_)) <;> (try (simp only [Bool.and_eq_true, Bool.or_eq_true, Bool.not_eq_true', Bool.and_eq_false_iff, Bool.or_eq_false_iff, Bool.not_eq_false', decide_eq_true_eq, decide_eq_false_iff_not, Int.not_lt, Int.not_le] at hd)) <;> (try (exfalso; first | omega | exact hd trivial | contradiction))
    · apply W.seq
      apply W.reg
      apply oas; rfl; rfl
      apply OL.nil
      with_reducible apply At.next
      apply W.ret
      with_reducible apply At.in_ret
      with_reducible apply At.then_ret
      with_reducible apply At.then_ret
      with_reducible apply At.in_ret
      with_reducible apply At.then_ret
      ((with_reducible apply At.fin1); rfl; rfl; intro w' hw')
      have : ¬ l1 = l2 := fun e => by
        subst e
        rw [hu] at hu2
        exact hd (by rw [Option.some.inj hu2])
      exact ⟨by simp [this], by (exact hw'.toExt (by (repeat (first | exact List.Mem.head _ | apply List.Mem.tail))) (fun k hk => by (focus ((try simp only [add_block]); (repeat (first | exact NotOwned.nil | exact hno _ (by omega) | refine NotOwned.nothing ?_ | refine NotOwned.nds (hlow _ (by omega)) ?_ | refine NotOwned.mapS (by omega) ?_ | apply NotOwned.bif | refine NotOwned.blk (by omega) ?_ | refine NotOwned.row (by omega) ?_ | refine NotOwned.grid (by assumption) (by omega) ?_)); done))))⟩
    · apply W.skip
      with_reducible apply At.in_normal
      with_reducible apply At.next
      apply W.reg
      apply obn; rfl; rfl; rfl; apply Bin.add_in; omega
      apply omv; rfl; rfl
      apply OL.nil
      refine At.again (i + 1) ⟨by omega, fun j hj => ?_⟩ (by omega) (by (repeat (first | exact Sub.nil | apply Sub.cons rfl))) (fun w' hw' => hw')
      by_cases hji : j = i
      · subst hji
        rw [hu, hu2, show u = u2 by simpa using hd]
      · exact hsame j (by omega)
  · apply W.exit
    with_reducible apply At.then_exit
    with_reducible apply At.then_exit
    with_reducible apply At.in_exit
    with_reducible apply At.next
    apply W.seq
    apply W.reg
    apply oas; rfl; rfl
    apply OL.nil
    with_reducible apply At.next
    apply W.ret
    ((with_reducible apply At.fin1); rfl; rfl; intro w' hw')
    have : l1 = l2 := List.ext_getElem? fun j => by
      rcases Nat.lt_or_ge j l1.length with h | h
      · exact hsame j (by omega)
      · rw [List.getElem?_eq_none h, List.getElem?_eq_none (by omega)]
    exact ⟨by simp [this], by (exact hw'.toExt (by (repeat (first | exact List.Mem.head _ | apply List.Mem.tail))) (fun k hk => by (focus ((try simp only [add_block]); (repeat (first | exact NotOwned.nil | exact hno _ (by omega) | refine NotOwned.nothing ?_ | refine NotOwned.nds (hlow _ (by omega)) ?_ | refine NotOwned.mapS (by omega) ?_ | apply NotOwned.bif | refine NotOwned.blk (by omega) ?_ | refine NotOwned.row (by omega) ?_ | refine NotOwned.grid (by assumption) (by omega) ?_)); done))))⟩

/-! the reference's list is the store's, turned round -/
theorem delK_rev (L : PR) (k : BA) : delK L.reverse k = (delK L k).reverse := List.filter_reverse ..
theorem findK_append : ∀ (A B : PR) (k : BA), findK (A ++ B) k = (findK A k).or (findK B k)
  | [], B, k => by simp [findK]
  | p :: A, B, k => by
    rw [List.cons_append, findK, findK, findK_append A B k]
    split <;> simp
theorem findK_mem : ∀ {L : PR} {k v : BA}, findK L k = some v → k ∈ L.map Prod.fst
  | p :: L, k, v, h => by
    rw [findK] at h
    by_cases hp : p.1 = k
    · simp [hp]
    · rw [if_neg hp] at h
      exact .tail _ (findK_mem h)
theorem findK_rev : ∀ (L : PR) (k : BA), (L.map Prod.fst).Nodup → findK L.reverse k = findK L k
  | [], k, _ => rfl
  | p :: L, k, h => by
    simp only [List.map_cons, List.nodup_cons] at h
    rw [List.reverse_cons, findK_append, findK_rev L k h.2]
    show (findK L k).or (if p.1 = k then some p.2 else none) = if p.1 = k then some p.2 else findK L k
    by_cases hp : p.1 = k
    · rw [if_pos hp, if_pos hp]
      cases hf : findK L k with
      | none => rfl
      | some v => exact absurd (findK_mem hf) (by rw [← hp]; exact h.1)
    · rw [if_neg hp, if_neg hp]; cases findK L k <;> rfl
theorem rget_rev (L : PR) (k : BA) (h : (L.map Prod.fst).Nodup) : rget L.reverse k = ((getS L k).1.reverse, (getS L k).2.1, (getS L k).2.2) := by
  rw [rget, getS, findK_rev L k h]
  cases findK L k with
  | none => rfl
  | some v => simp [delK_rev]
theorem delK_len : ∀ (L : PR) (k : BA), ((delK L k).length = L.length ↔ findK L k = none)
  | [], k => by simp [delK, findK]
  | p :: L, k => by
    have ih := delK_len L k
    have hle : (delK L k).length ≤ L.length := delK_le L k
    unfold delK at ih hle ⊢
    rw [findK]
    by_cases hp : p.1 = k
    · rw [List.filter_cons_of_neg (by simp [hp]), if_pos hp]
      simp only [List.length_cons, reduceCtorEq, iff_false]
      omega
    · rw [List.filter_cons_of_pos (by simp [hp]), if_neg hp, ← ih]
      simp
theorem rdrop_rev (L : PR) (k : BA) : rdrop L.reverse k = ((dropS L k).1.reverse, (dropS L k).2) := by
  have h := delK_len L k
  rw [rdrop, dropS, delK_rev, List.length_reverse, List.length_reverse]
  cases hf : findK L k with
  | none => rw [if_pos (h.2 hf)]
  | some v => rw [if_neg (fun e => by rw [h.1 e] at hf; cases hf)]
theorem rput_rev (room : Nat) (L : PR) (k v : BA) : rput room L.reverse k v = ((putS room L k v).1.reverse, (putS room L k v).2.1, (putS room L k v).2.2) := by
  rw [rput, putS, delK_rev, List.reverse_reverse]
  split
  · rfl
  · simp
/-! what stays true of the keys -/
theorem ev_sub (room need : Nat) : ∀ (L : PR), ∃ A, L = A ++ (ev room need L).2
  | [] => ⟨[], rfl⟩
  | p :: L => by
    rw [ev]
    split
    · obtain ⟨A, hA⟩ := ev_sub room need L
      exact ⟨p :: A, by rw [List.cons_append, ← hA]⟩
    · exact ⟨[], rfl⟩
def One (L : PR) : Prop := ∀ p ∈ L, p.1.size = 1
theorem One.len : ∀ {L : PR}, One L → L.length ≤ sumL L
  | [], _ => Nat.le_refl _
  | p :: L, h => by
    have ih := One.len (L := L) fun x hx => h x (.tail _ hx)
    have := h p (.head _)
    simp only [List.length_cons, sumL]
    omega
theorem One.del {L : PR} (h : One L) (k : BA) : One (delK L k) := fun p hp => h p (List.mem_filter.1 hp).1
theorem One.snoc {L : PR} (h : One L) {k v : BA} (hk : k.size = 1) : One (L ++ [(k, v)]) := fun p hp => by
  rcases List.mem_append.1 hp with hp | hp
  · exact h p hp
  · rw [List.mem_singleton] at hp; subst hp; exact hk
theorem One.get {L : PR} (h : One L) {k : BA} (hk : k.size = 1) : One (getS L k).1 := by
  unfold getS
  split
  · exact h
  · exact (h.del k).snoc hk
theorem One.drop {L : PR} (h : One L) {k : BA} : One (dropS L k).1 := by
  unfold dropS
  split
  · exact h
  · exact h.del k
theorem One.put {room : Nat} {L : PR} (h : One L) {k v : BA} (hk : k.size = 1) : One (putS room L k v).1 := by
  unfold putS
  split
  · exact h
  · refine One.snoc (fun p hp => ?_) hk
    obtain ⟨A, hA⟩ := ev_sub room (k.size + v.size) (delK L k)
    exact h.del k p (by rw [hA]; exact List.mem_append.2 (.inr hp))
end Go.Proofs.Ytlcclcakdfmgkaa.st
