/- The walks of slices.IndexFunc, ContainsFunc, Clone, DeleteFunc and Delete at [][2]int. Conditions: none. -/
import Derived.Test.YtfnkahakocbofaaBuf
import Derived.Test.YtfnkahakocbofaaMvP
import Derived.Test.YtfnkahakocbofaaRows
namespace Go.Proofs.Ytfnkahakocbofaa.mv
open Go.RowKit Go.Eng Go.Mv
set_option linter.unusedVariables false
set_option maxRecDepth 100000

theorem IndexFunc_calls (q : Option Addr) (cap : Nat) (l : List Pr) (f : FuncId) (first caps : List Value) (p : Pr → Bool) (w : World) (hlen : l.length ≤ 9223372036854775807) (h : SlAt w w.heap.size q (cat pcell l))
    (hf : callable Try.prog f = true) (hp : ∀ s ∈ l, ∀ w', Ext w w' → Calls Try.prog f (first ++ [pv s] ++ caps).toArray w' fun e w'' => e = .returned (.bool (p s)) ∧ Ext w' w'') :
    Calls Try.prog 12 #[.slice q l.length cap, .func (.func f) first.toArray caps.toArray] w fun e w' => e = .returned (.int .i64 (idxP p l 0)) ∧ Ext w w' := by
  refine enter Try.func12 rfl Try.ntmps12 rfl (Cls.start w) ?_
  (simp only [argEnv, Nat.zero_add, Nat.reduceAdd])
  apply W.seq
  apply W.reg
  apply oas; rfl; rfl
  apply OL.nil
  with_reducible apply At.next
  apply W.seq
  apply W.seq
  apply W.reg
  apply omv; rfl; rfl
  apply OL.op; exact Guard.none; rfl; rfl; apply Pev.len_slice; rfl; exact yes; rfl
  apply omv; rfl; rfl
  apply OL.nil
  with_reducible apply At.next
  apply W.block
  refine W.loop (G := Nat) (fun i => i ≤ l.length ∧ idxP p (l.drop i) i = idxP p l 0) (fun i => l.length - i)
    (fun i => [(8, true, .int .i64 (i : Int)), (7, true, .int .i64 (l.length : Int)), (0, true, .slice q l.length cap), (1, true, .func (.func f) first.toArray caps.toArray)])
    (fun i => Cls [] [w]) 0 ⟨by omega, rfl⟩ (by (repeat (first | exact Sub.nil | apply Sub.cons rfl))) (fun w' hw' => hw') ?_
  rintro i ⟨hi, hrest⟩
  apply W.seq
  apply W.reg
  apply obn; rfl; rfl; rfl; apply Bin.lss
  apply OL.nil
  with_reducible apply At.next
  apply W.seq
  (refine W.cond rfl (fun hlt => ?_) (fun hlt => ?_)) <;> (try (simp only [Bool.and_eq_true, Bool.or_eq_true, Bool.not_eq_true', Bool.and_eq_false_iff, Bool.or_eq_false_iff, Bool.not_eq_false', decide_eq_true_eq, decide_eq_false_iff_not, Int.not_lt, Int.not_le] at hlt)) <;> (try (exfalso; first | omega | exact hlt trivial | contradiction))
  · obtain ⟨a, u, rfl, hab, hu, hcell⟩ := h.elem plen (by decide) (show i < l.length by omega)
    rw [idxP_get hu] at hrest
    apply W.skip
    with_reducible apply At.next
    apply W.seq
    apply W.block
    apply W.seq
    apply W.reg
    apply omv; rfl; rfl
    apply oas; rfl; rfl
    apply OL.nil
    with_reducible apply At.next
    apply W.seq
    apply W.reg
    apply omv; rfl; rfl
    apply omv; rfl; rfl
    apply omv; rfl; rfl
    apply OL.op; exact Guard.none; rfl; rfl; apply Pev.idx; rfl; exact yes; rfl; exact yes; rfl; rfl; intro hcond; omega
    apply OL.op; exact Guard.none; rfl; rfl; apply Pev.load_keptA; rfl; exact yes; exact .head _; rfl; intro hcond; assumption; rfl; intro hcond; (rw [add_block]; assumption); intro hcond; exact NotOwned.nil
    (((first | (with_reducible apply OL.op) | (with_reducible apply QL.op)); ((first | exact Guard.none | exact Guard.yes rfl rfl | exact Guard.no rfl rfl | exact Guard.cyes rfl rfl | exact Guard.cno rfl rfl)); rfl; rfl); (apply Pev.callv (first := first) (cap := caps)); rfl; ((first | exact fun _ => rfl | exact fun h => h | (intro h; simp_all; done))); (exact hf); ((repeat (first | exact Args.nil | (apply Args.cons rfl; ((first | exact fun _ => rfl | exact fun h => h | (intro h; simp_all; done))))))); (exact (fun _ w2 hw2 => (hp u (List.mem_of_getElem? hu) w2 (hw2.toExt (by (repeat (first | exact List.Mem.head _ | apply List.Mem.tail))) (fun k hk => by (focus ((try simp only [add_block]); (repeat (first | exact NotOwned.nil | refine NotOwned.blk (by omega) ?_ | refine NotOwned.row (by omega) ?_ | refine NotOwned.grid (by assumption) (by omega) ?_)); done))))).mono (fun e w3 h => ⟨h.1, hw2.ext h.2⟩))))
    apply OL.nil
    with_reducible apply At.next
    (refine W.cond rfl (fun heq => ?_) (fun heq => ?_)) <;> (try (simp only [Bool.and_eq_true, Bool.or_eq_true, Bool.not_eq_true', Bool.and_eq_false_iff, Bool.or_eq_false_iff, Bool.not_eq_false', decide_eq_true_eq, decide_eq_false_iff_not, Int.not_lt, Int.not_le] at heq)) <;> (try (exfalso; first | omega | exact heq trivial | contradiction))
    · apply W.seq
      apply W.reg
      apply omv; rfl; rfl
      apply oas; rfl; rfl
      apply OL.nil
      with_reducible apply At.next
      apply W.ret
      with_reducible apply At.in_ret
      with_reducible apply At.then_ret
      with_reducible apply At.then_ret
      with_reducible apply At.in_ret
      with_reducible apply At.then_ret
      ((with_reducible apply At.fin1); rfl; rfl; intro w' hw')
      rw [if_pos heq] at hrest
      exact ⟨by rw [hrest], by (exact hw'.toExt (by (repeat (first | exact List.Mem.head _ | apply List.Mem.tail))) (fun k hk => by (focus ((try simp only [add_block]); (repeat (first | exact NotOwned.nil | refine NotOwned.blk (by omega) ?_ | refine NotOwned.row (by omega) ?_ | refine NotOwned.grid (by assumption) (by omega) ?_)); done))))⟩
    · apply W.skip
      with_reducible apply At.in_normal
      with_reducible apply At.next
      apply W.reg
      apply obn; rfl; rfl; rfl; apply Bin.add_in; omega
      apply omv; rfl; rfl
      apply OL.nil
      rw [if_neg (by simpa using heq)] at hrest
      exact At.again (i + 1) ⟨by omega, hrest⟩ (by omega) (by (repeat (first | exact Sub.nil | apply Sub.cons rfl))) (fun w' hw' => hw')
  · apply W.exit
    with_reducible apply At.then_exit
    with_reducible apply At.then_exit
    with_reducible apply At.in_exit
    with_reducible apply At.next
    apply W.seq
    apply W.reg
    apply oas; rfl; rfl
    apply OL.nil
    with_reducible apply At.next
    apply W.ret
    ((with_reducible apply At.fin1); rfl; rfl; intro w' hw')
    rw [idxP_end (by omega)] at hrest
    exact ⟨by rw [hrest], by (exact hw'.toExt (by (repeat (first | exact List.Mem.head _ | apply List.Mem.tail))) (fun k hk => by (focus ((try simp only [add_block]); (repeat (first | exact NotOwned.nil | refine NotOwned.blk (by omega) ?_ | refine NotOwned.row (by omega) ?_ | refine NotOwned.grid (by assumption) (by omega) ?_)); done))))⟩

theorem ContainsFunc_calls (q : Option Addr) (cap : Nat) (l : List Pr) (f : FuncId) (first caps : List Value) (p : Pr → Bool) (w : World) (hlen : l.length ≤ 9223372036854775807) (h : SlAt w w.heap.size q (cat pcell l))
    (hf : callable Try.prog f = true) (hp : ∀ s ∈ l, ∀ w', Ext w w' → Calls Try.prog f (first ++ [pv s] ++ caps).toArray w' fun e w'' => e = .returned (.bool (p s)) ∧ Ext w' w'') :
    Calls Try.prog 7 #[.slice q l.length cap, .func (.func f) first.toArray caps.toArray] w fun e w' => e = .returned (.bool (l.any p)) ∧ Ext w w' := by
  refine enter Try.func7 rfl Try.ntmps7 rfl (Cls.start w) ?_
  (simp only [argEnv, Nat.zero_add, Nat.reduceAdd])
  apply W.seq
  apply W.reg
  apply oas; rfl; rfl
  apply OL.nil
  with_reducible apply At.next
  apply W.seq
  apply W.reg
  apply omv; rfl; rfl
  apply omv; rfl; rfl
  (((first | (with_reducible apply OL.op) | (with_reducible apply QL.op)); ((first | exact Guard.none | exact Guard.yes rfl rfl | exact Guard.no rfl rfl | exact Guard.cyes rfl rfl | exact Guard.cno rfl rfl)); rfl; rfl); (exact Pev.call rfl (by (repeat (first | exact Args.nil | (apply Args.cons rfl; ((first | exact fun _ => rfl | exact fun h => h | (intro h; simp_all; done))))))) (fun _ w2 hw2 => (IndexFunc_calls q cap l f first caps p w2 hlen (h.keep (hw2.below (s := w) (by (repeat (first | exact List.Mem.head _ | apply List.Mem.tail))) (Nat.le_refl _) (fun k hk => by (focus ((try simp only [add_block]); (repeat (first | exact NotOwned.nil | refine NotOwned.blk (by omega) ?_ | refine NotOwned.row (by omega) ?_ | refine NotOwned.grid (by assumption) (by omega) ?_)); done)))) (hw2.kp w (by (repeat (first | exact List.Mem.head _ | apply List.Mem.tail)))).size) hf (fun s hs w3 h3 => hp s hs w3 ((hw2.toExt (s := w) (by (repeat (first | exact List.Mem.head _ | apply List.Mem.tail))) (fun k hk => by (focus ((try simp only [add_block]); (repeat (first | exact NotOwned.nil | refine NotOwned.blk (by omega) ?_ | refine NotOwned.row (by omega) ?_ | refine NotOwned.grid (by assumption) (by omega) ?_)); done)))).trans h3))).mono (fun e w3 h => ⟨h.1, hw2.ext h.2⟩))))
  apply obn; rfl; rfl; rfl; apply Bin.geq
  apply oas; rfl; rfl
  apply OL.nil
  with_reducible apply At.next
  apply W.ret
  ((with_reducible apply At.fin1); rfl; rfl; intro w' hw')
  exact ⟨by rw [idxP_nonneg], by (exact hw'.toExt (by (repeat (first | exact List.Mem.head _ | apply List.Mem.tail))) (fun k hk => by (focus ((try simp only [add_block]); (repeat (first | exact NotOwned.nil | refine NotOwned.blk (by omega) ?_ | refine NotOwned.row (by omega) ?_ | refine NotOwned.grid (by assumption) (by omega) ?_)); done))))⟩

theorem Clone_calls (q : Option Addr) (cap : Nat) (l : List Pr) (w : World) (hlen : l.length ≤ 100000) (h : SlAt w w.heap.size q (cat pcell l)) :
    Calls Try.prog 10 #[.slice q l.length cap] w fun e w' => ∃ (q' : Option Addr) (cap' : Nat), e = .returned (.slice q' l.length cap') ∧ Ext w w' ∧
      (0 < l.length → ∃ (g : Nat) (rest : List Value), q' = some ⟨g, 0, none⟩ ∧ w.heap.size ≤ g ∧ (blk g 26 (cat pcell l ++ rest)).holds w' ∧ (cat pcell l ++ rest).length = cap' * 2) := by
  refine enter Try.func10 rfl Try.ntmps10 rfl (Cls.start w) ?_
  (simp only [argEnv, Nat.zero_add, Nat.reduceAdd])
  apply W.seq
  apply W.reg
  apply oas; rfl; rfl
  apply OL.nil
  with_reducible apply At.next
  apply W.seq
  apply W.seq
  apply W.reg
  apply omv; rfl; rfl
  apply obn; rfl; rfl; rfl; apply Bin.slice_nil; rfl
  apply OL.nil
  with_reducible apply At.next
  cases q with
  | none =>
    refine W.cond rfl (fun _ => ?_) (fun hc => by cases hc)
    have hl0 : l.length = 0 := by
      rcases Nat.eq_zero_or_pos l.length with h0 | h0
      · exact h0
      · obtain ⟨a, x, he, _⟩ := h.elem plen (by decide) h0
        cases he
    rw [hl0]
    apply W.seq
    apply W.reg
    apply oas; rfl; rfl
    apply OL.nil
    with_reducible apply At.next
    apply W.ret
    with_reducible apply At.then_ret
    ((with_reducible apply At.fin1); rfl; rfl; intro w' hw')
    exact ⟨none, 0, rfl, by (exact hw'.toExt (by (repeat (first | exact List.Mem.head _ | apply List.Mem.tail))) (fun k hk => by (focus ((try simp only [add_block]); (repeat (first | exact NotOwned.nil | refine NotOwned.blk (by omega) ?_ | refine NotOwned.row (by omega) ?_ | refine NotOwned.grid (by assumption) (by omega) ?_)); done)))), fun h0 => by omega⟩
  | some a =>
    refine W.cond rfl (fun hc => by cases hc) (fun _ => ?_)
    apply W.skip
    with_reducible apply At.next
    apply W.seq
    apply W.reg
    apply OL.buildSlice; rfl; rfl; rfl; apply Elems.nil; rfl; rfl; (intro bk hbk; simp only [AllLe, and_true] at hbk)
    apply omv; rfl; rfl
    refine OL.appendNew (news := cat pcell l) rfl rfl rfl rfl (by (repeat (first | exact List.Mem.head _ | apply List.Mem.tail))) (fun w2 hw2 j v hj => ?_) (cat_length plen l) (cat_oneL pone l) ⟨by unfold maxLen; omega, by omega⟩ (fun q' cap' => ?_)
    · obtain ⟨a', he, hab, hc⟩ := (h.keep (hw2.below (s := w) (by (repeat (first | exact List.Mem.head _ | apply List.Mem.tail))) (Nat.le_refl _) (fun k hk => by (focus ((try simp only [add_block]); (repeat (first | exact NotOwned.nil | refine NotOwned.blk (by omega) ?_ | refine NotOwned.row (by omega) ?_ | refine NotOwned.grid (by assumption) (by omega) ?_)); done)))) (hw2.kp w (by (repeat (first | exact List.Mem.head _ | apply List.Mem.tail)))).size) (Nat.lt_of_le_of_lt (Nat.zero_le _) (List.getElem?_eq_some_iff.1 hj).1)
      cases he
      exact hc j v hj
    apply oas; rfl; rfl
    apply OL.nil
    with_reducible apply At.next
    apply W.ret
    ((with_reducible apply At.fin1); rfl; rfl; intro w' hw')
    obtain ⟨w0, hw0, hk, hown⟩ := hw'
    have hx : Ext w w' := Ext_keep (hw0.toExt (s := w) (by (repeat (first | exact List.Mem.head _ | apply List.Mem.tail))) (fun k hk => by (focus ((try simp only [add_block]); (repeat (first | exact NotOwned.nil | refine NotOwned.blk (by omega) ?_ | refine NotOwned.row (by omega) ?_ | refine NotOwned.grid (by assumption) (by omega) ?_)); done)))) hk hbk
    refine ⟨q', cap', rfl, hx, fun h0 => ?_⟩
    rcases hown.2 with ⟨_, h1⟩ | ⟨g, cap1, cur, he, hg, hh, h1, h2, h3, h4⟩
    · omega
    · simp only [Value.slice.injEq] at he
      obtain ⟨rfl, _, rfl⟩ := he
      have hl4 : cat pcell l = cur.toList.take (l.length * 2) := by rw [← h4]
      refine ⟨g, cur.toList.drop (l.length * 2), rfl, Nat.le_trans hbk hg, ?_, ?_⟩
      · rw [hl4, List.take_append_drop]
        exact hh
      · rw [hl4, List.take_append_drop]
        simpa using h3

theorem DeleteFunc_calls (g cap : Nat) (l : List Pr) (rest : List Value) (f : FuncId) (first caps : List Value) (p : Pr → Bool) (w : World) (hlen : l.length ≤ 100000) (hb : (blk g 26 (cat pcell l ++ rest)).holds w) (hcap : (cat pcell l ++ rest).length = cap * 2)
    (hf : callable Try.prog f = true) (hp : ∀ s ∈ l, ∀ w', Calls Try.prog f (first ++ [pv s] ++ caps).toArray w' fun e w'' => e = .returned (.bool (p s)) ∧ Ext w' w'') :
    Calls Try.prog 9 #[.slice (some ⟨g, 0, none⟩) l.length cap, .func (.func f) first.toArray caps.toArray] w fun e w' => e = .returned (.slice (some ⟨g, 0, none⟩) (l.filter (fun x => !p x)).length cap) ∧
      ∃ rest', (blk g 26 (cat pcell (l.filter (fun x => !p x)) ++ rest')).holds w' ∧ (cat pcell (l.filter (fun x => !p x)) ++ rest').length = cap * 2 ∧ Keep (fun k => k = g) w w' := by
  have hlc : l.length ≤ cap := by
    rw [List.length_append, cat_length plen] at hcap; omega
  refine enter Try.func9 rfl Try.ntmps9 rfl (Cls.start_blk hb) ?_
  (simp only [argEnv, Nat.zero_add, Nat.reduceAdd])
  apply W.seq
  apply W.reg
  apply oas; rfl; rfl
  apply OL.nil
  with_reducible apply At.next
  apply W.seq
  apply W.reg
  apply omv; rfl; rfl
  apply omv; rfl; rfl
  (((first | (with_reducible apply OL.op) | (with_reducible apply QL.op)); ((first | exact Guard.none | exact Guard.yes rfl rfl | exact Guard.no rfl rfl | exact Guard.cyes rfl rfl | exact Guard.cno rfl rfl)); rfl; rfl); (exact Pev.call rfl (by (repeat (first | exact Args.nil | (apply Args.cons rfl; ((first | exact fun _ => rfl | exact fun h => h | (intro h; simp_all; done))))))) (fun _ w2 hw2 => (IndexFunc_calls (some ⟨g, 0, none⟩) cap l f first caps p w2 (by omega) (SlAt.of_blk (o := 0) (hw2.item (i := blk g 26 (cat pcell l ++ rest)) (by (repeat (first | exact List.Mem.head _ | apply List.Mem.tail)))) (fun j v hj => by rw [Nat.zero_add, List.getElem?_append_left (List.getElem?_eq_some_iff.1 hj).1]; exact hj)) hf (fun s hs w3 _ => hp s hs w3)).mono (fun e w3 h => ⟨h.1, hw2.ext h.2⟩))))
  apply oas; rfl; rfl
  apply OL.nil
  with_reducible apply At.next
  apply W.seq
  apply W.seq
  apply W.reg
  apply omv; rfl; rfl
  apply obn; rfl; rfl; rfl; apply Bin.eql
  apply OL.nil
  with_reducible apply At.next
  rcases idxP_cases p l 0 with ⟨hm1, hall⟩ | ⟨k0, x0, hx0, hpx, hk0, hbef⟩
  · rw [hm1]
    refine W.cond rfl (fun _ => ?_) (fun hc => by simp at hc)
    apply W.seq
    apply W.reg
    apply omv; rfl; rfl
    apply oas; rfl; rfl
    apply OL.nil
    with_reducible apply At.next
    apply W.ret
    with_reducible apply At.then_ret
    ((with_reducible apply At.fin1); rfl; rfl; intro w' hw')
    have hfl : l.filter (fun x => !p x) = l := List.filter_eq_self.2 (fun x hx => by rw [hall x hx]; rfl)
    rw [hfl]
    exact ⟨rfl, rest, hw'.item (by (repeat (first | exact List.Mem.head _ | apply List.Mem.tail))), hcap, by (exact hw'.toKeep (by (repeat (first | exact List.Mem.head _ | apply List.Mem.tail))) (fun k hk (hO : ¬ k = g) => by (focus ((try simp only [add_block]); (repeat (first | exact NotOwned.nil | refine NotOwned.blk (by omega) ?_ | refine NotOwned.row (by omega) ?_ | refine NotOwned.grid (by assumption) (by omega) ?_)); done))))⟩
  · have hk0l := (List.getElem?_eq_some_iff.1 hx0).1
    rw [hk0, Nat.zero_add]
    refine W.cond rfl (fun hc => by simp at hc) (fun _ => ?_)
    apply W.skip
    with_reducible apply At.next
    apply W.seq
    apply W.seq
    apply W.reg
    apply omv; rfl; rfl
    apply obn; rfl; rfl; rfl; apply Bin.add_in; omega
    apply oas; rfl; rfl
    apply OL.nil
    with_reducible apply At.next
    apply W.block
    have hstart : (l.take (k0 + 1)).filter (fun x => !p x) = l.take k0 := by
      rw [List.take_add_one, hx0, List.filter_append, List.filter_eq_self.2 (fun x hx => by rw [hbef x hx]; rfl)]
      simp [hpx]
    refine W.loop (G := Nat × List Value) (fun j => j.1 ≤ l.length ∧ ((l.take j.1).filter (fun x => !p x)).length < j.1 ∧ j.2.length = cap * 2 ∧ j.2.take (((l.take j.1).filter (fun x => !p x)).length * 2) = cat pcell ((l.take j.1).filter (fun x => !p x)) ∧ j.2.drop (j.1 * 2) = (cat pcell l ++ rest).drop (j.1 * 2)) (fun j => l.length - j.1)
      (fun j => [(6, true, .int .i64 (j.1 : Int)), (5, true, .int .i64 (((l.take j.1).filter (fun x => !p x)).length : Int)), (0, true, .slice (some ⟨g, 0, none⟩) l.length cap), (1, true, .func (.func f) first.toArray caps.toArray)])
      (fun j => Cls [blk g 26 j.2] [w]) (k0 + 1, cat pcell l ++ rest) ⟨by simp only; omega, by rw [hstart, List.length_take]; omega, hcap, by
        simp only [hstart]
        rw [List.length_take, Nat.min_eq_left (by omega), List.take_append_of_le_length (by rw [cat_length plen]; omega), cat_take plen], rfl⟩ (by simp only [hstart, List.length_take, Nat.min_eq_left (Nat.le_of_lt hk0l)]; (repeat (first | exact Sub.nil | apply Sub.cons rfl))) (fun w' hw' => hw') ?_
    rintro ⟨j, c⟩ ⟨hjl, hkj, hcl, hct, hcd⟩
    simp only at hjl hkj hcl hct hcd ⊢
    generalize hkd : (l.take j).filter (fun x => !p x) = kept at hkj hct ⊢
    apply W.seq
    apply W.seq
    apply W.reg
    apply omv; rfl; rfl
    apply omv; rfl; rfl
    apply OL.op; exact Guard.none; rfl; rfl; apply Pev.len_slice; rfl; exact yes; rfl
    apply obn; rfl; rfl; rfl; apply Bin.lss
    apply OL.nil
    with_reducible apply At.next
    (refine W.cond rfl (fun hlt => ?_) (fun hlt => ?_)) <;> (try (simp only [Bool.and_eq_true, Bool.or_eq_true, Bool.not_eq_true', Bool.and_eq_false_iff, Bool.or_eq_false_iff, Bool.not_eq_false', decide_eq_true_eq, decide_eq_false_iff_not, Int.not_lt, Int.not_le] at hlt)) <;> (try (exfalso; first | omega | exact hlt trivial | contradiction))
    · have hjl2 : j < l.length := by omega
      have hu : l[j]? = some l[j] := List.getElem?_eq_getElem hjl2
      generalize hue : l[j] = u at hu
      have hcu : ∀ (k : Nat) (v : Value), (pcell u)[k]? = some v → c[j * 2 + k]? = some v := fun k v hk => by
        have h1 := cat_get plen hu k v hk
        have h2 : ((cat pcell l ++ rest).drop (j * 2))[k]? = some v := by
          rw [List.getElem?_drop, List.getElem?_append_left (List.getElem?_eq_some_iff.1 h1).1]; exact h1
        rw [← hcd, List.getElem?_drop] at h2
        exact h2
      have hnext : (l.take (j + 1)).filter (fun x => !p x) = if p u then kept else kept ++ [u] := by
        rw [List.take_add_one, hu, List.filter_append, hkd]
        cases hpu : p u <;> simp [hpu]
      apply W.skip
      with_reducible apply At.next
      apply W.seq
      apply W.block
      apply W.seq
      apply W.reg
      apply omv; rfl; rfl
      apply omv; rfl; rfl
      apply OL.op; exact Guard.none; rfl; rfl; apply Pev.idxB; rfl; exact yes; rfl; exact yes; rfl; intro hcond; omega; rfl
      (((first | (with_reducible apply OL.op) | (with_reducible apply QL.op)); ((first | exact Guard.none | exact Guard.yes rfl rfl | exact Guard.no rfl rfl | exact Guard.cyes rfl rfl | exact Guard.cno rfl rfl)); rfl; rfl); (refine Pev.load_clsA (vs := pcell u) rfl (by (first | exact fun _ => rfl | exact fun h => h | (intro h; simp_all; done))) rfl rfl (fun _ w2 hw2 k v hk => ?_)))
      · rw [add_mid, blk_cell (hw2.item (i := blk g 26 c) (by (repeat (first | exact List.Mem.head _ | apply List.Mem.tail))))]
        have := hcu k v hk
        rwa [show 0 + (j : Int).toNat * 2 + k = j * 2 + k by omega]
      apply OL.alloc; rfl; rfl; exact CellsL.agg; (intro bk hbk; simp only [AllLe, and_true] at hbk)
      apply OL.storeB; rfl; rfl; exact CellsL.agg; rfl; rfl; rfl; apply Swap.z; apply Put.here; apply Over.cons; apply Over.cons; apply Over.nil
      apply OL.nil
      with_reducible apply At.next
      apply W.seq
      apply W.reg
      apply omv; rfl; rfl
      apply OL.op; exact Guard.none; rfl; rfl; apply Pev.load_blkA; rfl; exact yes; exact .head _; rfl; apply Take.succ; apply Take.succ; apply Take.zero
      (((first | (with_reducible apply OL.op) | (with_reducible apply QL.op)); ((first | exact Guard.none | exact Guard.yes rfl rfl | exact Guard.no rfl rfl | exact Guard.cyes rfl rfl | exact Guard.cno rfl rfl)); rfl; rfl); (apply Pev.callv (first := first) (cap := caps) (vs := [pv u])); rfl; ((first | exact fun _ => rfl | exact fun h => h | (intro h; simp_all; done))); (exact hf); ((repeat (first | exact Args.nil | (apply Args.cons rfl; ((first | exact fun _ => rfl | exact fun h => h | (intro h; simp_all; done))))))); (exact (fun _ w2 hw2 => (hp u (List.mem_of_getElem? hu) w2).mono (fun e w3 h => ⟨h.1, hw2.ext h.2⟩))))
      apply OL.op; exact Guard.none; rfl; rfl; apply Pev.not; rfl; exact yes
      apply OL.nil
      with_reducible apply At.next
      refine W.cond rfl (fun hc => ?_) (fun hc => ?_)
      · have hpu : p u = false := by simpa using hc
        rw [hpu] at hnext
        simp only [Bool.false_eq_true, if_false] at hnext
        apply W.seq
        apply W.reg
        apply omv; rfl; rfl
        apply omv; rfl; rfl
        apply OL.op; exact Guard.none; rfl; rfl; apply Pev.load_blkA; rfl; exact yes; exact .head _; rfl; apply Take.succ; apply Take.succ; apply Take.zero
        apply OL.op; exact Guard.none; rfl; rfl; apply Pev.idxB; rfl; exact yes; rfl; exact yes; rfl; intro hcond; omega; rfl
        rw [show 0 + (kept.length : Int).toNat * 2 = kept.length * 2 by omega]
        (refine OL.storeL (vs := pcell u) (p := 1) rfl rfl rfl rfl rfl rfl ⟨by rw [hcl]; simp only [plen]; omega, rfl⟩ (by (repeat (first | apply Swap.z | apply Swap.s))) ?_)
        have hf2 : kept.length * 2 + (pcell u).length ≤ c.length := by rw [hcl, plen]; omega
        apply OL.nil
        with_reducible apply At.next
        apply W.reg
        apply omv; rfl; rfl
        apply obn; rfl; rfl; rfl; apply Bin.add_in; omega
        apply oas; rfl; rfl
        apply OL.nil
        with_reducible apply At.in_normal
        with_reducible apply At.next
        apply W.reg
        apply omv; rfl; rfl
        apply obn; rfl; rfl; rfl; apply Bin.add_in; omega
        apply oas; rfl; rfl
        apply OL.nil
        refine At.again (j + 1, putL c (kept.length * 2) (pcell u)) ⟨by simp only; omega, by simp only [hnext, List.length_append, List.length_cons, List.length_nil]; omega, by simp only [putL_length']; exact hcl, ?_, ?_⟩ (by simp only; omega) ?_ (fun w' hw' => hw'.thin (by (repeat (first | exact Thin.nil | exact Thin.same | apply Thin.keep | (refine Thin.blk (by assumption) ?_) | (refine Thin.blk (by simp only [AllLe, and_true]; omega) ?_)))))
        · simp only [hnext, List.length_append, List.length_cons, List.length_nil, Nat.zero_add, Nat.add_mul, Nat.one_mul]
          rw [show kept.length * 2 + 2 = kept.length * 2 + (pcell u).length from rfl, putL_take2 hf2, hct, cat_append, cat_one]
        · simp only
          rw [putL_drop hf2 (by rw [plen]; omega), show (j + 1) * 2 = j * 2 + 2 by omega, ← List.drop_drop, hcd, List.drop_drop]
        · simp only [hnext, List.length_append, List.length_cons, List.length_nil, Nat.zero_add]; (repeat (first | exact Sub.nil | apply Sub.cons rfl))
      · have hpu : p u = true := by simpa using hc
        rw [hpu, if_pos rfl] at hnext
        apply W.skip
        with_reducible apply At.in_normal
        with_reducible apply At.next
        apply W.reg
        apply omv; rfl; rfl
        apply obn; rfl; rfl; rfl; apply Bin.add_in; omega
        apply oas; rfl; rfl
        apply OL.nil
        refine At.again (j + 1, c) ⟨by simp only; omega, by simp only [hnext]; omega, hcl, by simp only [hnext]; exact hct, ?_⟩ (by simp only; omega) (by simp only [hnext]; (repeat (first | exact Sub.nil | apply Sub.cons rfl))) (fun w' hw' => hw'.thin (by (repeat (first | exact Thin.nil | exact Thin.same | apply Thin.keep | (refine Thin.blk (by assumption) ?_) | (refine Thin.blk (by simp only [AllLe, and_true]; omega) ?_)))))
        simp only
        rw [show (j + 1) * 2 = j * 2 + 2 by omega, ← List.drop_drop, hcd, List.drop_drop]
    · obtain rfl : j = l.length := by omega
      rw [List.take_length] at hkd
      rw [hkd]
      apply W.exit
      with_reducible apply At.then_exit
      with_reducible apply At.then_exit
      with_reducible apply At.in_exit
      with_reducible apply At.next
      apply W.seq
      apply W.reg
      apply omv; rfl; rfl
      apply omv; rfl; rfl
      apply OL.op; exact Guard.none; rfl; rfl; apply Pev.slice_lo; rfl; exact yes; rfl; exact yes; rfl; rfl; intro hcond; omega
      (refine OL.clear (b := g) (o := kept.length * 2) rfl rfl rfl CellsL.agg rfl rfl .z (fun hm => ⟨by simp [cutq, show ¬ cap = kept.length by omega, add_mid], by rw [hcl]; omega⟩) (fun c' hc1 hc2 => ?_))
      apply OL.nil
      with_reducible apply At.next
      apply W.seq
      apply W.reg
      apply omv; rfl; rfl
      apply omv; rfl; rfl
      apply OL.op; exact Guard.none; rfl; rfl; apply Pev.slice_hi; rfl; exact yes; rfl; exact yes; rfl; rfl; intro hcond; omega
      apply oas; rfl; rfl
      apply OL.nil
      with_reducible apply At.next
      apply W.ret
      ((with_reducible apply At.fin1); rfl; rfl; intro w' hw')
      refine ⟨rfl, c'.drop (kept.length * 2), ?_, ?_, by (exact hw'.toKeep (by (repeat (first | exact List.Mem.head _ | apply List.Mem.tail))) (fun k hk (hO : ¬ k = g) => by (focus ((try simp only [add_block]); (repeat (first | exact NotOwned.nil | refine NotOwned.blk (by omega) ?_ | refine NotOwned.row (by omega) ?_ | refine NotOwned.grid (by assumption) (by omega) ?_)); done))))⟩
      · rw [← hct, ← hc2, List.take_append_drop]
        exact hw'.item (by (repeat (first | exact List.Mem.head _ | apply List.Mem.tail)))
      · rw [← hct, ← hc2, List.take_append_drop, hc1]
        exact hcl

theorem Delete_calls (g cap at_ : Nat) (l : List Pr) (rest : List Value) (w : World) (hlen : l.length ≤ 100000) (hat : at_ < l.length) (hb : (blk g 26 (cat pcell l ++ rest)).holds w) (hcap : (cat pcell l ++ rest).length = cap * 2) :
    Calls Try.prog 15 #[.slice (some ⟨g, 0, none⟩) l.length cap, .int .i64 (at_ : Int), .int .i64 ((at_ : Int) + 1)] w fun e w' => e = .returned (.slice (some ⟨g, 0, none⟩) (l.eraseIdx at_).length cap) ∧
      ∃ rest', (blk g 26 (cat pcell (l.eraseIdx at_) ++ rest')).holds w' ∧ (cat pcell (l.eraseIdx at_) ++ rest').length = cap * 2 ∧ Keep (fun k => k = g) w w' := by
  have hlc : l.length ≤ cap := by
    rw [List.length_append, cat_length plen] at hcap; omega
  refine enter Try.func15 rfl Try.ntmps15 rfl (Cls.start_blk hb) ?_
  (simp only [argEnv, Nat.zero_add, Nat.reduceAdd])
  apply W.seq
  apply W.reg
  apply oas; rfl; rfl
  apply OL.nil
  with_reducible apply At.next
  apply W.seq
  apply W.reg
  apply omv; rfl; rfl
  apply omv; rfl; rfl
  apply omv; rfl; rfl
  apply omv; rfl; rfl
  apply OL.op; exact Guard.none; rfl; rfl; apply Pev.len_slice; rfl; exact yes; rfl
  apply OL.op; exact Guard.none; rfl; rfl; apply Pev.slice_lhm; rfl; exact yes; rfl; exact yes; rfl; exact yes; rfl; exact yes; rfl; rfl; rfl; rfl; intro hcond; (simp only [Bool.and_eq_true, Bool.or_eq_true, Bool.not_eq_true', decide_eq_true_eq, decide_eq_false_iff_not] at *; omega)
  apply OL.nil
  with_reducible apply At.next
  apply W.seq
  apply W.seq
  apply W.reg
  apply omv; rfl; rfl
  apply omv; rfl; rfl
  apply obn; rfl; rfl; rfl; apply Bin.eql
  apply OL.nil
  with_reducible apply At.next
  have hel : (l.eraseIdx at_).length = l.length - 1 := by rw [List.length_eraseIdx, if_pos hat]
  have her : cat pcell (l.eraseIdx at_) = cat pcell (l.take at_) ++ cat pcell (l.drop (at_ + 1)) := by rw [List.eraseIdx_eq_take_drop_succ, cat_append]
  have htl : (cat pcell (l.take at_)).length = at_ * 2 := by rw [cat_length plen, List.length_take, Nat.min_eq_left (Nat.le_of_lt hat)]
  have hdl : (cat pcell (l.drop (at_ + 1))).length = (l.length - (at_ + 1)) * 2 := by rw [cat_length plen, List.length_drop]
  obtain ⟨ad, had, hsrc⟩ : ∃ ad, cutq (some ⟨g, 0, none⟩) cap (at_ + 1) 2 = some ad ∧ ∀ w2, Cls [blk g 26 (cat pcell l ++ rest)] [w] w2 → CellsAt w2 ad (cat pcell (l.drop (at_ + 1))) := by
    by_cases hc : cap = at_ + 1
    · refine ⟨⟨g, 0, none⟩, by simp [cutq, hc], fun w2 hw2 j v hj => ?_⟩
      have := (List.getElem?_eq_some_iff.1 hj).1
      rw [hdl] at this
      omega
    · refine ⟨⟨g, 0 + (at_ + 1) * 2, none⟩, by simp [cutq, hc, add_mid], fun w2 hw2 j v hj => ?_⟩
      rw [add_mid, blk_cell (hw2.item (i := blk g 26 (cat pcell l ++ rest)) (by (repeat (first | exact List.Mem.head _ | apply List.Mem.tail))))]
      rw [← cat_drop plen, List.getElem?_drop] at hj
      rw [Nat.zero_add, List.getElem?_append_left (List.getElem?_eq_some_iff.1 hj).1]
      exact hj
  refine W.cond rfl (fun hc => by rw [decide_eq_true_eq] at hc; omega) (fun _ => ?_)
  apply W.skip
  with_reducible apply At.next
  apply W.seq
  apply W.reg
  apply omv; rfl; rfl
  apply OL.op; exact Guard.none; rfl; rfl; apply Pev.len_slice; rfl; exact yes; rfl
  apply oas; rfl; rfl
  apply OL.nil
  with_reducible apply At.next
  apply W.seq
  apply W.regq; apply Split.s rfl; apply Split.s rfl; apply Split.s rfl; apply Split.s rfl; apply Split.s rfl; apply Split.s rfl; exact Split.z rfl; kernel_rfl; decide +kernel; exact fun w hw => hw.drew
  apply qmv; rfl; rfl
  apply qmv; rfl; rfl
  apply QL.op; exact Guard.none; rfl; rfl; apply Pev.slice_hi; rfl; exact yes; rfl; exact yes; rfl; rfl; intro hcond; omega
  apply qmv; rfl; rfl
  apply qmv; rfl; rfl
  apply QL.op; exact Guard.none; rfl; rfl; apply Pev.slice_lo; rfl; exact yes; rfl; exact yes; rfl; rfl; intro hcond; (simp only [Bool.and_eq_true, Bool.or_eq_true, Bool.not_eq_true', decide_eq_true_eq, decide_eq_false_iff_not] at *; omega)
  with_reducible apply QL.tail
  rw [had]
  have hfit : at_ * 2 + (cat pcell (l.drop (at_ + 1))).length ≤ (cat pcell l ++ rest).length := by rw [hdl, hcap]; omega
  refine OL.appendIn rfl rfl rfl rfl .z hsrc hdl (cat_oneL pone _) (by omega) hfit ?_
  have htk : (cat pcell l ++ rest).take (at_ * 2) = cat pcell (l.take at_) := by rw [List.take_append_of_le_length (by rw [cat_length plen]; omega), cat_take plen]
  rw [htk, ← her, show at_ + (l.length - (at_ + 1)) = (l.eraseIdx at_).length by omega]
  generalize hr1 : (cat pcell l ++ rest).drop (at_ * 2 + (cat pcell (l.drop (at_ + 1))).length) = r1
  have hc1 : (cat pcell (l.eraseIdx at_) ++ r1).length = cap * 2 := by
    rw [← hr1, List.length_append, List.length_drop, her, List.length_append, htl]
    omega
  apply oas; rfl; rfl
  apply OL.nil
  with_reducible apply At.next
  apply W.seq
  apply W.reg
  apply omv; rfl; rfl
  apply omv; rfl; rfl
  apply OL.op; exact Guard.none; rfl; rfl; apply Pev.len_slice; rfl; exact yes; rfl
  apply omv; rfl; rfl
  apply OL.op; exact Guard.none; rfl; rfl; apply Pev.slice_lh; rfl; exact yes; rfl; exact yes; rfl; exact yes; rfl; rfl; rfl; intro hcond; omega
  (refine OL.clear (b := g) (o := (l.eraseIdx at_).length * 2) rfl rfl rfl CellsL.agg rfl rfl .z (fun hm => ⟨by simp [cutq, show ¬ cap = (l.eraseIdx at_).length by omega, add_mid], by rw [hc1]; omega⟩) (fun c' h1 h2 => ?_))
  apply OL.nil
  with_reducible apply At.next
  apply W.seq
  apply W.reg
  apply omv; rfl; rfl
  apply oas; rfl; rfl
  apply OL.nil
  with_reducible apply At.next
  apply W.ret
  ((with_reducible apply At.fin1); rfl; rfl; intro w' hw')
  have ht : (cat pcell (l.eraseIdx at_) ++ r1).take ((l.eraseIdx at_).length * 2) = cat pcell (l.eraseIdx at_) := by
    rw [List.take_append_of_le_length (by rw [cat_length plen]; omega), List.take_of_length_le (by rw [cat_length plen]; omega)]
  refine ⟨rfl, c'.drop ((l.eraseIdx at_).length * 2), ?_, ?_, by (exact hw'.toKeep (by (repeat (first | exact List.Mem.head _ | apply List.Mem.tail))) (fun k hk (hO : ¬ k = g) => by (focus ((try simp only [add_block]); (repeat (first | exact NotOwned.nil | refine NotOwned.blk (by omega) ?_ | refine NotOwned.row (by omega) ?_ | refine NotOwned.grid (by assumption) (by omega) ?_)); done))))⟩
  · rw [← ht, ← h2, List.take_append_drop]
    exact hw'.item (by (repeat (first | exact List.Mem.head _ | apply List.Mem.tail)))
  · rw [← ht, ← h2, List.take_append_drop, h1]
    exact hc1
end Go.Proofs.Ytfnkahakocbofaa.mv
