/- The walk of the reference's Operators. Conditions: none. -/
import Derived.Test.YtmmjkpbpmhaooaaFxD
import Derived.Test.YtmmjkpbpmhaooaaFxR
namespace Go.Proofs.Ytmmjkpbpmhaooaa.fx
open Go.RowKit Go.Eng Go.Fx
set_option linter.unusedVariables false
set_option maxRecDepth 100000

def opR (table : List Sig) (its : List Itm) : List Nod × Bool := match refP its.length (its.getD 0 ⟨⟨#[]⟩, 0⟩).n (pairs table (its.drop 1)) with
  | none => ([], false)
  | some t => (flat 0 t, true)
theorem refP_fuel : ∀ (f g : Nat) (n : Int) (ps : List P), ps.length ≤ f → ps.length ≤ g → refP f n ps = refP g n ps
  | 0, 0, _, _, _, _ => rfl
  | 0, g + 1, n, ps, h, _ => by
    rw [refP, refP, if_pos (by omega)]
  | f + 1, 0, n, ps, _, h => by
    rw [refP, refP, if_pos (by omega)]
  | f + 1, g + 1, n, ps, h1, h2 => by
    rw [refP, refP]
    by_cases h0 : ps.length = 0
    · rw [if_pos h0, if_pos h0]
    · rw [if_neg h0, if_neg h0]
      cases scanF (minL ps) ps 0 s0 with
      | none => rfl
      | some st =>
        obtain ⟨a, many, side⟩ := st
        simp only
        split
        · rfl
        · cases hx : ps[a.toNat / 2]? with
          | none => rfl
          | some x =>
            have hlt := (List.getElem?_eq_some_iff.1 hx).1
            obtain ⟨x, n2⟩ := x
            simp only
            rw [refP_fuel f g n (ps.take (a.toNat / 2)) (by rw [List.length_take]; omega) (by rw [List.length_take]; omega), refP_fuel f g n2 (ps.drop (a.toNat / 2 + 1)) (by rw [List.length_drop]; omega) (by rw [List.length_drop]; omega)]
theorem row_base {w : World} {B B' m cap size : Nat} {O : Nat → Prop} {q : Option Addr} {e : TypeId} {xs : List Value} (h : (row B O q m cap e size xs).holds w) (hB : B' ≤ B) : (row B' (fun k => B ≤ k ∧ O k) q m cap e size xs).holds w := by
  refine ⟨fun a ha => ⟨?_, h.1 a ha⟩, h.2.1, ?_⟩
  · rcases h.2.2 with ⟨h3, _⟩ | ⟨g, cap', cur, h3, hb, _⟩
    · rw [ha] at h3; cases h3
    · rw [ha] at h3
      simp only [Value.slice.injEq, Option.some.injEq] at h3
      rw [h3.1]; exact hb
  · rcases h.2.2 with h3 | ⟨g, cap', cur, h3, hb, h4⟩
    · exact .inl h3
    · exact .inr ⟨g, cap', cur, h3, by omega, h4⟩
structure GE where
  k : Nat
  st : Int × Int × Int
structure GA where
  j : Nat
  q : Option Addr
  c : Nat
  O : Nat → Prop

theorem Operators_calls (table : List Sig) (tq : Option Addr) (tc : Nat) (htl : table.length ≤ 40) (hlv : ∀ op, 0 ≤ (find table op).lev ∧ (find table op).lev ≤ 9 ∧ 0 ≤ (find table op).side ∧ (find table op).side ≤ 2) : ∀ (f : Nat) (its : List Itm) (iq : Option Addr) (icp : Nat) (w : World), its.length ≤ f → its.length ≤ 60 → its.length % 2 = 1 → its.length ≤ icp →
      (∀ p ∈ pairs table (its.drop 1), p.1.op ≠ ⟨#[]⟩) → SlAt w w.heap.size tq (cat sc table) → SlAt w w.heap.size iq (cat ic its) →
    Calls Try.prog 16 #[.slice tq table.length tc, .slice iq its.length icp] w fun e w' => ∃ x : RW, e = .returned (.tuple #[.slice x.q (opR table its).1.length x.c, .bool (opR table its).2]) ∧ Ext w w' ∧
      (row w.heap.size x.O x.q (opR table its).1.length x.c 45 4 (cat nc (opR table its).1)).holds w' ∧ ∀ k, w.heap.size ≤ k ∧ x.O k → k < w'.heap.size := by
  intro f
  induction f with
  | zero => intro its iq icp w h1 h2 h3; omega
  | succ f ih =>
    intro its iq icp w hf hil hodd hicp hops ht hi
    obtain ⟨a0, ha0⟩ : ∃ a0, its[0]? = some a0 := ⟨_, List.getElem?_eq_getElem (by omega)⟩
    have hg0 : its.getD 0 ⟨⟨#[]⟩, 0⟩ = a0 := by rw [List.getD_eq_getElem?_getD, ha0]; rfl
    have hpl : (pairs table (its.drop 1)).length = (its.length - 1) / 2 := pairs_len table _ _ (by rw [List.length_drop]; omega)
    obtain ⟨ai, a0', rfl, hab, ha0', hcell0⟩ := hi.elem ilen (by decide) (show 0 < its.length by omega)
    rw [ha0] at ha0'
    obtain rfl := Option.some.inj ha0'
    unfold ic at hcell0
    refine enter Try.func16 rfl Try.ntmps16 rfl (Cls.start w) ?_
    (simp only [argEnv, Nat.zero_add, Nat.reduceAdd])
    apply W.seq
    apply W.reg
    apply oas; rfl; rfl
    apply oas; rfl; rfl
    apply OL.nil
    with_reducible apply At.next
    apply W.seq
    apply W.seq
    apply W.reg
    apply omv; rfl; rfl
    apply OL.op; exact Guard.none; rfl; rfl; apply Pev.len_slice; rfl; exact yes; rfl
    apply obn; rfl; rfl; rfl; apply Bin.eql
    apply OL.nil
    with_reducible apply At.next
    (refine W.cond rfl (fun h1 => ?_) (fun h1 => ?_)) <;> (try (simp only [Bool.and_eq_true, Bool.or_eq_true, Bool.not_eq_true', Bool.and_eq_false_iff, Bool.or_eq_false_iff, Bool.not_eq_false', decide_eq_true_eq, decide_eq_false_iff_not, Int.not_lt, Int.not_le] at h1)) <;> (try (exfalso; first | omega | exact h1 trivial | contradiction))
    · have hl1 : its.length = 1 := by omega
      have hp0 : pairs table (its.drop 1) = [] := List.eq_nil_of_length_eq_zero (by omega)
      have hR : opR table its = ([⟨⟨#[]⟩, a0.n, 0, 0⟩], true) := by rw [opR, hl1, hp0, hg0]; rfl
      apply W.seq
      apply W.reg
      apply omv; rfl; rfl
      apply OL.op; exact Guard.none; rfl; rfl; apply Pev.idx; rfl; exact yes; rfl; exact yes; rfl; rfl; intro hcond; (simp only [Bool.and_eq_true, Bool.or_eq_true, Bool.not_eq_true', decide_eq_true_eq, decide_eq_false_iff_not] at *; omega)
      apply OL.op; exact Guard.none; rfl; rfl; apply Pev.fldA; rfl; exact yes; rfl
      apply OL.op; exact Guard.none; rfl; rfl; apply Pev.load_kept; rfl; exact yes; exact .head _; rfl; intro hcond; apply CellsAt.at_ (by assumption) rfl; intro hcond; assumption; intro hcond; exact NotOwned.nil
      apply OL.op; exact Guard.none; rfl; rfl; apply Pev.build; rfl; exact CellsL.agg; rfl; apply Fill.cons rfl; exact CellsL.one rfl; rfl; rfl; apply Put.skip; apply Put.here; apply Over.cons; apply Over.nil; apply Fill.nil; rfl
      apply OL.buildSlice; rfl; rfl; rfl; apply Elems.cons rfl; exact CellsL.agg; rfl; apply Elems.nil; apply App.cons; apply App.cons; apply App.cons; apply App.cons; apply App.nil; rfl; rfl; (intro bk hbk; simp only [AllLe, and_true] at hbk)
      apply oas; rfl; rfl
      apply oas; rfl; rfl
      apply OL.nil
      with_reducible apply At.next
      apply W.ret
      with_reducible apply At.then_ret
      ((with_reducible apply At.fin2); rfl; rfl; rfl; intro w' hw')
      refine ⟨⟨some ⟨bk, 0, none⟩, 1, fun k => k = bk⟩, by rw [hR]; rfl, by (exact hw'.toExt (by (repeat (first | exact List.Mem.head _ | apply List.Mem.tail))) (fun k hk => by (focus ((try simp only [add_block]); (repeat (first | exact NotOwned.nil | exact hno _ (by omega) | refine NotOwned.nothing ?_ | apply NotOwned.bif | refine NotOwned.blk (by omega) ?_ | refine NotOwned.row (by omega) ?_ | refine NotOwned.grid (by assumption) (by omega) ?_)); done)))), ?_, fun k hk => ?_⟩
      · rw [hR]
        refine ⟨fun a ha => (by cases ha; rfl), rfl, .inr ⟨bk, 1, _, rfl, hbk, hw'.item (i := blk bk 45 [.string ⟨#[]⟩, .int .i64 a0.n, .int .i64 0, .int .i64 0]) (by (repeat (first | exact List.Mem.head _ | apply List.Mem.tail))), Nat.le_refl _, by decide, rfl, rfl⟩⟩
      · have := blk_lt (hw'.item (i := blk bk 45 [.string ⟨#[]⟩, .int .i64 a0.n, .int .i64 0, .int .i64 0]) (by (repeat (first | exact List.Mem.head _ | apply List.Mem.tail))))
        have h2 : k = bk := hk.2
        omega
    · generalize hps : pairs table (its.drop 1) = ps at hpl hops
      have hlen : its.length = 2 * ps.length + 1 := by omega
      have hpos : 0 < ps.length := by omega
      have hop : ∀ k, k < ps.length → ∃ o a, its[2 * k + 1]? = some o ∧ its[2 * k + 2]? = some a ∧ ps[k]? = some (find table o.op, a.n) := fun k hk => by
        have h5 : its[2 * k + 1]? = some (its[2 * k + 1]'(by omega)) := List.getElem?_eq_getElem (by omega)
        have h6 : its[2 * k + 2]? = some (its[2 * k + 2]'(by omega)) := List.getElem?_eq_getElem (by omega)
        have hg := pairs_get table (its := its.drop 1) (k := k) (by rw [List.getElem?_drop, show 1 + 2 * k = 2 * k + 1 by omega]; exact h5) (by rw [List.getElem?_drop, show 1 + (2 * k + 1) = 2 * k + 2 by omega]; exact h6)
        rw [hps] at hg
        exact ⟨_, _, h5, h6, hg⟩
      have hl9 : ∀ p ∈ ps, p.1.lev ≤ 9 := fun p hp => by
        obtain ⟨k, hk⟩ := List.mem_iff_getElem?.1 hp
        obtain ⟨o, a, _, _, h7⟩ := hop k (List.getElem?_eq_some_iff.1 hk).1
        rw [hk] at h7
        rw [Option.some.inj h7]
        exact (hlv o.op).2.1
      apply W.skip
      with_reducible apply At.next
      apply W.seq
      apply W.reg
      apply oas; rfl; rfl
      apply OL.nil
      with_reducible apply At.next
      apply W.seq
      apply W.seq
      apply W.reg
      apply oas; rfl; rfl
      apply OL.nil
      with_reducible apply At.next
      apply W.block
      refine W.loop (G := Nat) (fun k => k ≤ ps.length) (fun k => ps.length - k)
        (fun k => [(7, true, .int .i64 ((2 * k + 1 : Nat) : Int)), (6, true, .int .i64 (minL (ps.take k))), (0, true, .slice tq table.length tc), (1, true, .slice (some ai) its.length icp)])
        (fun k => Cls [] [w]) 0 (by omega) (by (repeat (first | exact Sub.nil | apply Sub.cons rfl))) (fun w' hw' => hw') ?_
      intro k hk
      apply W.seq
      apply W.seq
      apply W.reg
      apply omv; rfl; rfl
      apply omv; rfl; rfl
      apply OL.op; exact Guard.none; rfl; rfl; apply Pev.len_slice; rfl; exact yes; rfl
      apply obn; rfl; rfl; rfl; apply Bin.lss
      apply OL.nil
      with_reducible apply At.next
      (refine W.cond rfl (fun hlt => ?_) (fun hlt => ?_)) <;> (try (simp only [Bool.and_eq_true, Bool.or_eq_true, Bool.not_eq_true', Bool.and_eq_false_iff, Bool.or_eq_false_iff, Bool.not_eq_false', decide_eq_true_eq, decide_eq_false_iff_not, Int.not_lt, Int.not_le] at hlt)) <;> (try (exfalso; first | omega | exact hlt trivial | contradiction))
      · have hkl : k < ps.length := by omega
        obtain ⟨o, a, ho, ha, hpk⟩ := hop k hkl
        obtain ⟨ax, o', hae, _, ho', hcello⟩ := hi.elem ilen (by decide) (show 2 * k + 1 < its.length by omega)
        cases hae
        rw [ho] at ho'
        obtain rfl := Option.some.inj ho'
        unfold ic at hcello
        have hms := min_step hpk
        have e2 : ((2 * (k + 1) + 1 : Nat) : Int) = ((2 * k + 1 : Nat) : Int) + 2 := by omega
        generalize hgi : 2 * k + 1 = i at ho hcello hlt e2 ⊢
        apply W.skip
        with_reducible apply At.next
        apply W.seq
        apply W.block
        apply W.seq
        apply W.reg
        apply omv; rfl; rfl
        apply omv; rfl; rfl
        apply omv; rfl; rfl
        apply OL.op; exact Guard.none; rfl; rfl; apply Pev.idx; rfl; exact yes; rfl; exact yes; rfl; rfl; intro hcond; omega
        apply OL.op; exact Guard.none; rfl; rfl; apply Pev.fldA; rfl; exact yes; rfl
        apply OL.op; exact Guard.none; rfl; rfl; apply Pev.load_kept; rfl; exact yes; exact .head _; rfl; intro hcond; apply CellsAt.at_ (by assumption) rfl; intro hcond; (simp only [add_block]; assumption); intro hcond; exact NotOwned.nil
        (((first | (with_reducible apply OL.op) | (with_reducible apply QL.op)); ((first | exact Guard.none | exact Guard.yes rfl rfl | exact Guard.no rfl rfl | exact Guard.cyes rfl rfl | exact Guard.cno rfl rfl)); rfl; rfl); (refine Pev.call (v := .tuple #[.int .i64 (find table o.op).side, .int .i64 (find table o.op).lev]) rfl (by (repeat (first | exact Args.nil | (apply Args.cons rfl; ((first | exact fun _ => rfl | exact fun h => h | (intro h; simp_all; done))))))) (fun _ w2 hw2 => (FixityOf_calls tq tc table o.op w2 (by omega) (ht.keep (hw2.below (s := w) (by (repeat (first | exact List.Mem.head _ | apply List.Mem.tail))) (Nat.le_refl _) (fun k hk => by (focus ((try simp only [add_block]); (repeat (first | exact NotOwned.nil | exact hno _ (by omega) | refine NotOwned.nothing ?_ | apply NotOwned.bif | refine NotOwned.blk (by omega) ?_ | refine NotOwned.row (by omega) ?_ | refine NotOwned.grid (by assumption) (by omega) ?_)); done)))) (hw2.kp w (by (repeat (first | exact List.Mem.head _ | apply List.Mem.tail)))).size)).mono (fun e w3 h => ⟨h.1, hw2.ext h.2⟩))))
        apply omv; rfl; rfl
        apply oex; rfl; rfl; rfl
        apply oex; rfl; rfl; rfl
        apply oas; rfl; rfl
        apply oas; rfl; rfl
        apply OL.nil
        with_reducible apply At.next
        apply W.seq
        apply W.reg
        apply omv; rfl; rfl
        apply omv; rfl; rfl
        apply obn; rfl; rfl; rfl; apply Bin.lss
        apply OL.nil
        with_reducible apply At.next
        refine W.cond rfl (fun hc => ?_) (fun hc => ?_)
        · rw [mnS, if_pos (by simpa using hc)] at hms
          apply W.reg
          apply omv; rfl; rfl
          apply oas; rfl; rfl
          apply OL.nil
          with_reducible apply At.in_normal
          with_reducible apply At.next
          apply W.reg
          apply omv; rfl; rfl
          apply obn; rfl; rfl; rfl; apply Bin.add_in; omega
          apply oas; rfl; rfl
          apply OL.nil
          exact At.again (k + 1) (by omega) (by omega) (by rw [hms, e2]; (repeat (first | exact Sub.nil | apply Sub.cons rfl))) (fun w' hw' => hw')
        · rw [mnS, if_neg (by simpa using hc)] at hms
          apply W.skip
          with_reducible apply At.in_normal
          with_reducible apply At.next
          apply W.reg
          apply omv; rfl; rfl
          apply obn; rfl; rfl; rfl; apply Bin.add_in; omega
          apply oas; rfl; rfl
          apply OL.nil
          exact At.again (k + 1) (by omega) (by omega) (by rw [hms, e2]; (repeat (first | exact Sub.nil | apply Sub.cons rfl))) (fun w' hw' => hw')
      · obtain rfl : k = ps.length := by omega
        rw [List.take_length]
        generalize hm : minL ps = m
        have hR0 : opR table its = match refP (its.length - 1 + 1) a0.n ps with
            | none => ([], false)
            | some t => (flat 0 t, true) := by rw [opR, hg0, hps, show its.length - 1 + 1 = its.length by omega]
        rw [refP, if_neg (by omega), hm] at hR0
        apply W.exit
        with_reducible apply At.then_exit
        with_reducible apply At.then_exit
        with_reducible apply At.in_exit
        with_reducible apply At.next
        apply W.seq
        apply W.reg
        apply oas; rfl; rfl
        apply oas; rfl; rfl
        apply oas; rfl; rfl
        apply OL.nil
        with_reducible apply At.next
        apply W.seq
        apply W.seq
        apply W.reg
        apply oas; rfl; rfl
        apply OL.nil
        with_reducible apply At.next
        apply W.block
        refine W.loop (G := GE) (fun s => s.k ≤ ps.length ∧ scanF m (ps.drop s.k) s.k s.st = scanF m ps 0 s0 ∧ 0 ≤ s.st.2.1 ∧ s.st.2.1 ≤ s.k ∧ -1 ≤ s.st.1) (fun s => ps.length - s.k)
          (fun s => [(13, true, .int .i64 ((2 * s.k + 1 : Nat) : Int)), (10, true, .int .i64 s.st.1), (11, true, .int .i64 s.st.2.1), (12, true, .int .i64 s.st.2.2), (6, true, .int .i64 m), (0, true, .slice tq table.length tc), (1, true, .slice (some ai) its.length icp)])
          (fun s => Cls [] [w]) ⟨0, s0⟩ ⟨by simp, rfl, by decide, by decide, by decide⟩ (by (repeat (first | exact Sub.nil | apply Sub.cons rfl))) (fun w' hw' => hw') ?_
        rintro ⟨k, at_, many, side⟩ ⟨hk, hscan, hm0, hmk, hat1⟩
        simp only at hk hscan hm0 hmk hat1 ⊢
        apply W.seq
        apply W.seq
        apply W.reg
        apply omv; rfl; rfl
        apply omv; rfl; rfl
        apply OL.op; exact Guard.none; rfl; rfl; apply Pev.len_slice; rfl; exact yes; rfl
        apply obn; rfl; rfl; rfl; apply Bin.lss
        apply OL.nil
        with_reducible apply At.next
        (refine W.cond rfl (fun hlt2 => ?_) (fun hlt2 => ?_)) <;> (try (simp only [Bool.and_eq_true, Bool.or_eq_true, Bool.not_eq_true', Bool.and_eq_false_iff, Bool.or_eq_false_iff, Bool.not_eq_false', decide_eq_true_eq, decide_eq_false_iff_not, Int.not_lt, Int.not_le] at hlt2)) <;> (try (exfalso; first | omega | exact hlt2 trivial | contradiction))
        · have hkl : k < ps.length := by omega
          obtain ⟨o, a, ho, ha, hpk⟩ := hop k hkl
          obtain ⟨ax, o', hae, _, ho', hcello⟩ := hi.elem ilen (by decide) (show 2 * k + 1 < its.length by omega)
          cases hae
          rw [ho] at ho'
          obtain rfl := Option.some.inj ho'
          unfold ic at hcello
          rw [scan_step hpk] at hscan
          simp only at hscan
          have e2 : ((2 * (k + 1) + 1 : Nat) : Int) = ((2 * k + 1 : Nat) : Int) + 2 := by omega
          generalize hgi : 2 * k + 1 = i at ho hcello hlt2 hscan e2 ⊢
          apply W.skip
          with_reducible apply At.next
          apply W.seq
          apply W.block
          apply W.seq
          apply W.reg
          apply omv; rfl; rfl
          apply omv; rfl; rfl
          apply omv; rfl; rfl
          apply OL.op; exact Guard.none; rfl; rfl; apply Pev.idx; rfl; exact yes; rfl; exact yes; rfl; rfl; intro hcond; omega
          apply OL.op; exact Guard.none; rfl; rfl; apply Pev.fldA; rfl; exact yes; rfl
          apply OL.op; exact Guard.none; rfl; rfl; apply Pev.load_kept; rfl; exact yes; exact .head _; rfl; intro hcond; apply CellsAt.at_ (by assumption) rfl; intro hcond; (simp only [add_block]; assumption); intro hcond; exact NotOwned.nil
          (((first | (with_reducible apply OL.op) | (with_reducible apply QL.op)); ((first | exact Guard.none | exact Guard.yes rfl rfl | exact Guard.no rfl rfl | exact Guard.cyes rfl rfl | exact Guard.cno rfl rfl)); rfl; rfl); (refine Pev.call (v := .tuple #[.int .i64 (find table o.op).side, .int .i64 (find table o.op).lev]) rfl (by (repeat (first | exact Args.nil | (apply Args.cons rfl; ((first | exact fun _ => rfl | exact fun h => h | (intro h; simp_all; done))))))) (fun _ w2 hw2 => (FixityOf_calls tq tc table o.op w2 (by omega) (ht.keep (hw2.below (s := w) (by (repeat (first | exact List.Mem.head _ | apply List.Mem.tail))) (Nat.le_refl _) (fun k hk => by (focus ((try simp only [add_block]); (repeat (first | exact NotOwned.nil | exact hno _ (by omega) | refine NotOwned.nothing ?_ | apply NotOwned.bif | refine NotOwned.blk (by omega) ?_ | refine NotOwned.row (by omega) ?_ | refine NotOwned.grid (by assumption) (by omega) ?_)); done)))) (hw2.kp w (by (repeat (first | exact List.Mem.head _ | apply List.Mem.tail)))).size)).mono (fun e w3 h => ⟨h.1, hw2.ext h.2⟩))))
          apply omv; rfl; rfl
          apply oex; rfl; rfl; rfl
          apply oex; rfl; rfl; rfl
          apply oas; rfl; rfl
          apply oas; rfl; rfl
          apply OL.nil
          with_reducible apply At.next
          apply W.seq
          apply W.seq
          apply W.reg
          apply omv; rfl; rfl
          apply omv; rfl; rfl
          apply obn; rfl; rfl; rfl; apply Bin.neq
          apply OL.nil
          with_reducible apply At.next
          refine W.cond rfl (fun hc => ?_) (fun hc => ?_)
          · rw [if_pos (by simpa using hc)] at hscan
            apply W.exit
            with_reducible apply At.then_exit
            with_reducible apply At.in_exit
            with_reducible apply At.next
            apply W.reg
            apply omv; rfl; rfl
            apply obn; rfl; rfl; rfl; apply Bin.add_in; omega
            apply oas; rfl; rfl
            apply OL.nil
            exact At.again ⟨k + 1, at_, many, side⟩ ⟨by simp only; omega, hscan, hm0, by simp only; omega, hat1⟩ (by simp only; omega) (by simp only [e2]; (repeat (first | exact Sub.nil | apply Sub.cons rfl))) (fun w' hw' => hw')
          · rw [if_neg (by simpa using hc)] at hscan
            apply W.skip
            with_reducible apply At.next
            apply W.seq
            apply W.seq
            apply W.reg
            apply omv; rfl; rfl
            apply obn; rfl; rfl; rfl; apply Bin.geq
            apply omv; rfl; rfl
            apply OL.op; exact Guard.yes rfl rfl; rfl; rfl; apply Pev.move; rfl; exact yes
            apply OL.op; exact Guard.yes rfl rfl; rfl; rfl; apply Pev.move; rfl; exact yes
            apply OL.op; exact Guard.yes rfl rfl; rfl; rfl; apply Pev.bin; rfl; exact fun h => h; rfl; exact fun h => h; intro hcond; apply Bin.neq
            apply OL.op; exact Guard.none; rfl; rfl; apply Pev.pick_and; rfl; exact yes; rfl; exact fun h => h
            apply OL.nil
            with_reducible apply At.next
            refine W.cond rfl (fun hc2 => ?_) (fun hc2 => ?_)
            · rw [if_pos (by simpa using hc2)] at hscan
              rw [← hscan] at hR0
              apply W.seq
              apply W.reg
              apply oas; rfl; rfl
              apply oas; rfl; rfl
              apply OL.nil
              with_reducible apply At.next
              apply W.ret
              with_reducible apply At.then_ret
              with_reducible apply At.in_ret
              with_reducible apply At.then_ret
              with_reducible apply At.then_ret
              with_reducible apply At.in_ret
              with_reducible apply At.then_ret
              ((with_reducible apply At.fin2); rfl; rfl; rfl; intro w' hw')
              refine ⟨⟨none, 0, fun _ => False⟩, by rw [hR0]; rfl, by (exact hw'.toExt (by (repeat (first | exact List.Mem.head _ | apply List.Mem.tail))) (fun k hk => by (focus ((try simp only [add_block]); (repeat (first | exact NotOwned.nil | exact hno _ (by omega) | refine NotOwned.nothing ?_ | apply NotOwned.bif | refine NotOwned.blk (by omega) ?_ | refine NotOwned.row (by omega) ?_ | refine NotOwned.grid (by assumption) (by omega) ?_)); done)))), ?_, fun k hk => hk.2.elim⟩
              rw [hR0]
              exact ⟨fun a ha => (by cases ha), World.ownsRow_nil _ _ _ _⟩
            · rw [if_neg (by simpa using hc2)] at hscan
              apply W.skip
              with_reducible apply At.next
              apply W.seq
              apply W.reg
              apply omv; rfl; rfl
              apply oas; rfl; rfl
              apply OL.nil
              with_reducible apply At.next
              apply W.seq
              apply W.reg
              apply omv; rfl; rfl
              apply obn; rfl; rfl; rfl; apply Bin.add_in; omega
              apply oas; rfl; rfl
              apply OL.nil
              with_reducible apply At.next
              apply W.seq
              apply W.reg
              apply omv; rfl; rfl
              apply obn; rfl; rfl; rfl; apply Bin.lss
              apply omv; rfl; rfl
              apply OL.op; exact Guard.no rfl rfl; rfl; rfl; apply Pev.move; rfl; exact yes
              apply OL.op; exact Guard.no rfl rfl; rfl; rfl; apply Pev.bin; rfl; exact fun h => h; rfl; exact yes; intro hcond; apply Bin.eql
              apply OL.op; exact Guard.none; rfl; rfl; apply Pev.pick_or; rfl; exact yes; rfl; exact fun h => h
              apply OL.nil
              with_reducible apply At.next
              refine W.cond rfl (fun hc3 => ?_) (fun hc3 => ?_)
              · rw [if_pos (by simpa using hc3)] at hscan
                apply W.reg
                apply omv; rfl; rfl
                apply oas; rfl; rfl
                apply OL.nil
                with_reducible apply At.in_normal
                with_reducible apply At.next
                apply W.reg
                apply omv; rfl; rfl
                apply obn; rfl; rfl; rfl; apply Bin.add_in; omega
                apply oas; rfl; rfl
                apply OL.nil
                exact At.again ⟨k + 1, (i : Int), many + 1, (find table o.op).side⟩ ⟨by simp only; omega, hscan, by simp only; omega, by simp only; omega, by simp only; omega⟩ (by simp only; omega) (by simp only [e2]; (repeat (first | exact Sub.nil | apply Sub.cons rfl))) (fun w' hw' => hw')
              · rw [if_neg (by simpa using hc3)] at hscan
                apply W.skip
                with_reducible apply At.in_normal
                with_reducible apply At.next
                apply W.reg
                apply omv; rfl; rfl
                apply obn; rfl; rfl; rfl; apply Bin.add_in; omega
                apply oas; rfl; rfl
                apply OL.nil
                exact At.again ⟨k + 1, at_, many + 1, (find table o.op).side⟩ ⟨by simp only; omega, hscan, by simp only; omega, by simp only; omega, hat1⟩ (by simp only; omega) (by simp only [e2]; (repeat (first | exact Sub.nil | apply Sub.cons rfl))) (fun w' hw' => hw')
        · obtain rfl : k = ps.length := by omega
          rw [List.drop_length, scanF] at hscan
          have hat0 : 0 ≤ at_ := scan_pos _ _ _ _ hscan.symm (.inr (by rw [← hm]; exact min_some hpos hl9))
          obtain ⟨j, hj, hatj⟩ := (scan_at _ _ _ _ hscan.symm).resolve_left (fun h => by
            have h2 : at_ = -1 := h
            omega)
          simp only [Nat.zero_add] at hatj
          subst hatj
          rw [← hscan] at hR0
          simp only at hR0
          obtain ⟨o, a, ho, ha, hpj⟩ := hop j hj
          rw [show ((2 * j + 1 : Nat) : Int).toNat / 2 = j by omega, hpj] at hR0
          simp only at hR0
          apply W.exit
          with_reducible apply At.then_exit
          with_reducible apply At.then_exit
          with_reducible apply At.in_exit
          with_reducible apply At.next
          apply W.seq
          apply W.seq
          apply W.reg
          apply omv; rfl; rfl
          apply obn; rfl; rfl; rfl; apply Bin.eql
          apply omv; rfl; rfl
          apply OL.op; exact Guard.yes rfl rfl; rfl; rfl; apply Pev.move; rfl; exact yes
          apply OL.op; exact Guard.yes rfl rfl; rfl; rfl; apply Pev.bin; rfl; exact fun h => h; rfl; exact yes; intro hcond; apply Bin.gtr
          apply OL.op; exact Guard.none; rfl; rfl; apply Pev.pick_and; rfl; exact yes; rfl; exact fun h => h
          apply OL.nil
          with_reducible apply At.next
          refine W.cond rfl (fun hc => ?_) (fun hc => ?_)
          · rw [if_pos (by simpa using hc)] at hR0
            apply W.seq
            apply W.reg
            apply oas; rfl; rfl
            apply oas; rfl; rfl
            apply OL.nil
            with_reducible apply At.next
            apply W.ret
            with_reducible apply At.then_ret
            ((with_reducible apply At.fin2); rfl; rfl; rfl; intro w' hw')
            refine ⟨⟨none, 0, fun _ => False⟩, by rw [hR0]; rfl, by (exact hw'.toExt (by (repeat (first | exact List.Mem.head _ | apply List.Mem.tail))) (fun k hk => by (focus ((try simp only [add_block]); (repeat (first | exact NotOwned.nil | exact hno _ (by omega) | refine NotOwned.nothing ?_ | apply NotOwned.bif | refine NotOwned.blk (by omega) ?_ | refine NotOwned.row (by omega) ?_ | refine NotOwned.grid (by assumption) (by omega) ?_)); done)))), ?_, fun k hk => hk.2.elim⟩
            rw [hR0]
            exact ⟨fun a ha => (by cases ha), World.ownsRow_nil _ _ _ _⟩
          · rw [if_neg (by simpa using hc)] at hR0
            have hl1 : (its.take (2 * j + 1)).length = 2 * j + 1 := by rw [List.length_take]; omega
            have hp1 : pairs table ((its.take (2 * j + 1)).drop 1) = ps.take j := by
              rw [List.drop_take, show 2 * j + 1 - 1 = 2 * j by omega, pairs_take table j _ (by rw [List.length_drop]; omega), hps]
            have hl2 : (its.drop (2 * j + 1 + 1)).length = its.length - (2 * j + 1 + 1) := List.length_drop
            have hp2 : pairs table ((its.drop (2 * j + 1 + 1)).drop 1) = ps.drop (j + 1) := by
              rw [List.drop_drop, show 2 * j + 1 + 1 + 1 = 1 + 2 * (j + 1) by omega, ← List.drop_drop, pairs_drop, hps]
            have hO1 : opR table (its.take (2 * j + 1)) = match refP (its.length - 1) a0.n (ps.take j) with
                | none => ([], false)
                | some t => (flat 0 t, true) := by
              have hg : (its.take (2 * j + 1)).getD 0 ⟨⟨#[]⟩, 0⟩ = a0 := by rw [List.getD_eq_getElem?_getD, List.getElem?_take_of_lt (by omega), ha0]; rfl
              rw [opR, hg, hp1, refP_fuel _ (its.length - 1) a0.n (ps.take j) (by rw [List.length_take, hl1]; omega) (by rw [List.length_take]; omega)]
            have hO2 : opR table (its.drop (2 * j + 1 + 1)) = match refP (its.length - 1) a.n (ps.drop (j + 1)) with
                | none => ([], false)
                | some t => (flat 0 t, true) := by
              have hg : (its.drop (2 * j + 1 + 1)).getD 0 ⟨⟨#[]⟩, 0⟩ = a := by rw [List.getD_eq_getElem?_getD, List.getElem?_drop, show 2 * j + 1 + 1 + 0 = 2 * j + 2 by omega, ha]; rfl
              rw [opR, hg, hp2, refP_fuel _ (its.length - 1) a.n (ps.drop (j + 1)) (by rw [List.length_drop, hl2]; omega) (by rw [List.length_drop]; omega)]
            have hs1 : ∀ t, refP (its.length - 1) a0.n (ps.take j) = some t → t.size ≤ 200 ∧ t.opsOk := fun t h => by
              have h8 := refP_size _ _ _ _ h
              rw [List.length_take] at h8
              exact ⟨by omega, refP_ops _ _ _ _ (fun p hp => hops p (List.mem_of_mem_take hp)) h⟩
            have hs2 : ∀ t, refP (its.length - 1) a.n (ps.drop (j + 1)) = some t → t.size ≤ 200 ∧ t.opsOk := fun t h => by
              have h8 := refP_size _ _ _ _ h
              rw [List.length_drop] at h8
              exact ⟨by omega, refP_ops _ _ _ _ (fun p hp => hops p (List.mem_of_mem_drop hp)) h⟩
            generalize refP (its.length - 1) a0.n (ps.take j) = rA at hR0 hO1 hs1
            generalize refP (its.length - 1) a.n (ps.drop (j + 1)) = rB at hR0 hO2 hs2
            rw [find_op] at hR0
            apply W.skip
            with_reducible apply At.next
            apply W.seq
            apply W.reg
            apply omv; rfl; rfl
            apply omv; rfl; rfl
            apply omv; rfl; rfl
            apply OL.op; exact Guard.none; rfl; rfl; apply Pev.slice_hi; rfl; exact yes; rfl; exact yes; rfl; rfl; intro hcond; omega
            refine OL.callE (α := RW × Nat) (fun x => .tuple #[.slice x.1.q (opR table (its.take (2 * j + 1))).1.length x.1.c, .bool (opR table (its.take (2 * j + 1))).2]) (fun x => w.heap.size ≤ x.2) (fun x => Cls [row x.2 x.1.O x.1.q (opR table (its.take (2 * j + 1))).1.length x.1.c 45 4 (cat nc (opR table (its.take (2 * j + 1))).1)] [w]) rfl rfl (by (repeat (first | exact Args.nil | (apply Args.cons rfl; ((first | exact fun _ => rfl | exact fun h => h | (intro h; simp_all; done))))))) (fun w2 hw2 => ?_) ?_
            · have h8 := hw2.below (s := w) (by (repeat (first | exact List.Mem.head _ | apply List.Mem.tail))) (Nat.le_refl _) (fun k hk => by (focus ((try simp only [add_block]); (repeat (first | exact NotOwned.nil | exact hno _ (by omega) | refine NotOwned.nothing ?_ | apply NotOwned.bif | refine NotOwned.blk (by omega) ?_ | refine NotOwned.row (by omega) ?_ | refine NotOwned.grid (by assumption) (by omega) ?_)); done)))
              have h9 := (hw2.kp w (by (repeat (first | exact List.Mem.head _ | apply List.Mem.tail)))).size
              have hc2 := ih (its.take (2 * j + 1)) (some ai) icp w2 (by omega) (by omega) (by omega) (by omega) (fun p hp => hops p (by rw [hp1] at hp; exact List.mem_of_mem_take hp)) (ht.keep h8 h9) ((hi.keep h8 h9).takeC _)
              rw [hl1] at hc2
              exact hc2.mono fun e w3 ⟨x, he, hx, hrow, hlt⟩ => ⟨(x, w2.heap.size), he, h9, hw2.add hx _ hrow (fun k hk => ⟨hk.1, hlt k hk⟩)⟩
            rintro ⟨⟨qa, ca, Oa⟩, Ba⟩ hBa
            simp only at hBa ⊢
            apply omv; rfl; rfl
            apply oex; rfl; rfl; rfl
            apply oex; rfl; rfl; rfl
            apply oas; rfl; rfl
            apply oas; rfl; rfl
            apply OL.nil
            with_reducible apply At.next
            apply W.seq
            apply W.reg
            apply omv; rfl; rfl
            apply omv; rfl; rfl
            apply omv; rfl; rfl
            apply obn; rfl; rfl; rfl; apply Bin.add_in; omega
            apply OL.op; exact Guard.none; rfl; rfl; apply Pev.slice_lo; rfl; exact yes; rfl; exact yes; rfl; rfl; intro hcond; (simp only [Bool.and_eq_true, Bool.or_eq_true, Bool.not_eq_true', decide_eq_true_eq, decide_eq_false_iff_not] at *; omega)
            refine OL.callE (α := RW × Nat) (fun x => .tuple #[.slice x.1.q (opR table (its.drop (2 * j + 1 + 1))).1.length x.1.c, .bool (opR table (its.drop (2 * j + 1 + 1))).2]) (fun x => w.heap.size ≤ x.2) (fun x => Cls [row x.2 x.1.O x.1.q (opR table (its.drop (2 * j + 1 + 1))).1.length x.1.c 45 4 (cat nc (opR table (its.drop (2 * j + 1 + 1))).1), row Ba Oa qa (opR table (its.take (2 * j + 1))).1.length ca 45 4 (cat nc (opR table (its.take (2 * j + 1))).1)] [w]) rfl rfl (by (repeat (first | exact Args.nil | (apply Args.cons rfl; ((first | exact fun _ => rfl | exact fun h => h | (intro h; simp_all; done))))))) (fun w2 hw2 => ?_) ?_
            · have h8 := hw2.below (s := w) (by (repeat (first | exact List.Mem.head _ | apply List.Mem.tail))) (Nat.le_refl _) (fun k hk => by (focus ((try simp only [add_block]); (repeat (first | exact NotOwned.nil | exact hno _ (by omega) | refine NotOwned.nothing ?_ | apply NotOwned.bif | refine NotOwned.blk (by omega) ?_ | refine NotOwned.row (by omega) ?_ | refine NotOwned.grid (by assumption) (by omega) ?_)); done)))
              have h9 := (hw2.kp w (by (repeat (first | exact List.Mem.head _ | apply List.Mem.tail)))).size
              have hc2 := ih (its.drop (2 * j + 1 + 1)) (cutq (some ai) icp (2 * j + 1 + 1) 2) (icp - (2 * j + 1 + 1)) w2 (by omega) (by omega) (by omega) (by omega) (fun p hp => hops p (by rw [hp2] at hp; exact List.mem_of_mem_drop hp)) (ht.keep h8 h9) ((hi.keep h8 h9).dropC ilen hicp _)
              rw [hl2] at hc2
              exact hc2.mono fun e w3 ⟨x, he, hx, hrow, hlt⟩ => ⟨(x, w2.heap.size), he, h9, hw2.add hx _ hrow (fun k hk => ⟨hk.1, hlt k hk⟩)⟩
            rintro ⟨⟨qb, cb, Ob⟩, Bb⟩ hBb
            simp only at hBb ⊢
            rw [hO1, hO2]
            cases rA with
            | none =>
              have hR : opR table its = ([], false) := by rw [hR0]
              simp only
              apply omv; rfl; rfl
              apply oex; rfl; rfl; rfl
              apply oex; rfl; rfl; rfl
              apply oas; rfl; rfl
              apply oas; rfl; rfl
              apply OL.nil
              with_reducible apply At.next
              apply W.seq
              apply W.seq
              apply W.reg
              apply omv; rfl; rfl
              apply OL.op; exact Guard.none; rfl; rfl; apply Pev.not; rfl; exact yes
              apply omv; rfl; rfl
              apply OL.op; exact Guard.no rfl rfl; rfl; rfl; apply Pev.move; rfl; exact yes
              apply OL.op; exact Guard.no rfl rfl; rfl; rfl; apply Pev.not; rfl; exact fun h => h
              apply OL.op; exact Guard.none; rfl; rfl; apply Pev.pick_or; rfl; exact yes; rfl; exact fun h => h
              apply OL.nil
              with_reducible apply At.next
              refine W.cond rfl (fun _ => ?_) (fun hc => by simp at hc)
              apply W.seq
              apply W.reg
              apply oas; rfl; rfl
              apply oas; rfl; rfl
              apply OL.nil
              with_reducible apply At.next
              apply W.ret
              with_reducible apply At.then_ret
              ((with_reducible apply At.fin2); rfl; rfl; rfl; intro w' hw')
              refine ⟨⟨none, 0, fun _ => False⟩, by rw [hR]; rfl, by (exact hw'.toExt (by (repeat (first | exact List.Mem.head _ | apply List.Mem.tail))) (fun k hk => by (focus ((try simp only [add_block]); (repeat (first | exact NotOwned.nil | exact hno _ (by omega) | refine NotOwned.nothing ?_ | apply NotOwned.bif | refine NotOwned.blk (by omega) ?_ | refine NotOwned.row (by omega) ?_ | refine NotOwned.grid (by assumption) (by omega) ?_)); done)))), ?_, fun k hk => hk.2.elim⟩
              rw [hR]
              exact ⟨fun a ha => (by cases ha), World.ownsRow_nil _ _ _ _⟩
            | some tl => cases rB with
              | none =>
                have hR : opR table its = ([], false) := by rw [hR0]
                simp only
                apply omv; rfl; rfl
                apply oex; rfl; rfl; rfl
                apply oex; rfl; rfl; rfl
                apply oas; rfl; rfl
                apply oas; rfl; rfl
                apply OL.nil
                with_reducible apply At.next
                apply W.seq
                apply W.seq
                apply W.reg
                apply omv; rfl; rfl
                apply OL.op; exact Guard.none; rfl; rfl; apply Pev.not; rfl; exact yes
                apply omv; rfl; rfl
                apply OL.op; exact Guard.no rfl rfl; rfl; rfl; apply Pev.move; rfl; exact yes
                apply OL.op; exact Guard.no rfl rfl; rfl; rfl; apply Pev.not; rfl; exact yes
                apply OL.op; exact Guard.none; rfl; rfl; apply Pev.pick_or; rfl; exact yes; rfl; exact yes
                apply OL.nil
                with_reducible apply At.next
                refine W.cond rfl (fun _ => ?_) (fun hc => by simp at hc)
                apply W.seq
                apply W.reg
                apply oas; rfl; rfl
                apply oas; rfl; rfl
                apply OL.nil
                with_reducible apply At.next
                apply W.ret
                with_reducible apply At.then_ret
                ((with_reducible apply At.fin2); rfl; rfl; rfl; intro w' hw')
                refine ⟨⟨none, 0, fun _ => False⟩, by rw [hR]; rfl, by (exact hw'.toExt (by (repeat (first | exact List.Mem.head _ | apply List.Mem.tail))) (fun k hk => by (focus ((try simp only [add_block]); (repeat (first | exact NotOwned.nil | exact hno _ (by omega) | refine NotOwned.nothing ?_ | apply NotOwned.bif | refine NotOwned.blk (by omega) ?_ | refine NotOwned.row (by omega) ?_ | refine NotOwned.grid (by assumption) (by omega) ?_)); done)))), ?_, fun k hk => hk.2.elim⟩
                rw [hR]
                exact ⟨fun a ha => (by cases ha), World.ownsRow_nil _ _ _ _⟩
              | some tr =>
                have hR : opR table its = (flat 0 (.node o.op tl tr), true) := by rw [hR0]
                obtain ⟨hsl, _⟩ := hs1 tl rfl
                obtain ⟨hsr, hokr⟩ := hs2 tr rfl
                have hfl := flat_length tl 0
                have hfr := flat_length tr 0
                have hlp := tl.pos
                have hrp := tr.pos
                have hmv := flat_mv tr 0 tl.size hokr
                rw [Nat.add_zero] at hmv
                have hbd := flat_bound tr 0
                simp only
                apply omv; rfl; rfl
                apply oex; rfl; rfl; rfl
                apply oex; rfl; rfl; rfl
                apply oas; rfl; rfl
                apply oas; rfl; rfl
                apply OL.nil
                with_reducible apply At.next
                apply W.seq
                apply W.seq
                apply W.reg
                apply omv; rfl; rfl
                apply OL.op; exact Guard.none; rfl; rfl; apply Pev.not; rfl; exact yes
                apply omv; rfl; rfl
                apply OL.op; exact Guard.no rfl rfl; rfl; rfl; apply Pev.move; rfl; exact yes
                apply OL.op; exact Guard.no rfl rfl; rfl; rfl; apply Pev.not; rfl; exact yes
                apply OL.op; exact Guard.none; rfl; rfl; apply Pev.pick_or; rfl; exact yes; rfl; exact yes
                apply OL.nil
                with_reducible apply At.next
                refine W.cond rfl (fun hc => by simp at hc) (fun _ => ?_)
                apply W.skip
                with_reducible apply At.next
                apply W.seq
                apply W.reg
                apply omv; rfl; rfl
                apply OL.op; exact Guard.none; rfl; rfl; apply Pev.len_slice; rfl; exact yes; rfl
                apply oas; rfl; rfl
                apply OL.nil
                with_reducible apply At.next
                apply W.seq
                apply W.seq
                apply W.reg
                apply omv; rfl; rfl
                apply OL.op; exact Guard.none; rfl; rfl; apply Pev.len_slice; rfl; exact yes; rfl
                apply omv; rfl; rfl
                apply OL.nil
                with_reducible apply At.next
                apply W.block
                rw [hfl, hfr]
                refine W.loop (G := GA) (fun s => s.j ≤ tr.size) (fun s => tr.size - s.j)
                  (fun s => [(121, true, .int .i64 (s.j : Int)), (120, true, .int .i64 (tr.size : Int)), (119, true, .slice qb tr.size cb), (18, true, .slice qb tr.size cb), (20, true, .int .i64 (tl.size : Int)), (16, true, .slice s.q (tl.size + s.j) s.c), (10, true, .int .i64 ((2 * j + 1 : Nat) : Int)), (1, true, .slice (some ai) its.length icp)])
                  (fun s => Cls [row Bb Ob qb tr.size cb 45 4 (cat nc (flat 0 tr)), row Ba s.O s.q (tl.size + s.j) s.c 45 4 (cat nc (flat 0 tl ++ ((flat 0 tr).take s.j).map (mv (tl.size : Int))))] [w]) ⟨0, qa, ca, Oa⟩ (by simp) (by (repeat (first | exact Sub.nil | apply Sub.cons rfl))) (fun w' hw' => by simpa using hw') ?_
                rintro ⟨j2, q1, c1, O1⟩ hj2
                simp only at hj2 ⊢
                apply W.seq
                apply W.reg
                apply obn; rfl; rfl; rfl; apply Bin.lss
                apply OL.nil
                with_reducible apply At.next
                apply W.seq
                (refine W.cond rfl (fun hlt3 => ?_) (fun hlt3 => ?_)) <;> (try (simp only [Bool.and_eq_true, Bool.or_eq_true, Bool.not_eq_true', Bool.and_eq_false_iff, Bool.or_eq_false_iff, Bool.not_eq_false', decide_eq_true_eq, decide_eq_false_iff_not, Int.not_lt, Int.not_le] at hlt3)) <;> (try (exfalso; first | omega | exact hlt3 trivial | contradiction))
                · have hj2l : j2 < tr.size := by omega
                  obtain ⟨x, hx⟩ : ∃ x, (flat 0 tr)[j2]? = some x := ⟨_, List.getElem?_eq_getElem (by omega)⟩
                  obtain ⟨hb1, hb2, hb3, hb4⟩ := hbd x (List.mem_of_getElem? hx)
                  refine W.fact (φ := ∃ gb, qb = some ⟨gb, 0, none⟩) (fun w3 hw3 => row_some (hw3.item (i := row Bb Ob qb tr.size cb 45 4 (cat nc (flat 0 tr))) (by (repeat (first | exact List.Mem.head _ | apply List.Mem.tail)))) (by omega)) ?_
                  rintro ⟨gb, rfl⟩
                  apply W.skip
                  with_reducible apply At.next
                  apply W.seq
                  apply W.block
                  apply W.seq
                  apply W.reg
                  apply OL.op; exact Guard.none; rfl; rfl; apply Pev.idxB; rfl; exact yes; rfl; exact yes; rfl; intro hcond; omega; rfl
                  (((first | (with_reducible apply OL.op) | (with_reducible apply QL.op)); ((first | exact Guard.none | exact Guard.yes rfl rfl | exact Guard.no rfl rfl | exact Guard.cyes rfl rfl | exact Guard.cno rfl rfl)); rfl; rfl); (refine Pev.load_clsA (vs := [.string x.op, .int .i64 x.n, .int .i64 x.a, .int .i64 x.b]) rfl (by (first | exact fun _ => rfl | exact fun h => h | (intro h; simp_all; done))) rfl rfl (fun _ w3 hw3 jj v hj => ?_)))
                  · rw [add_mid]
                    have h8 := cat_get nlen hx jj v hj
                    rw [show j2 * 4 + jj = 0 + (j2 : Int).toNat * 4 + jj by omega] at h8
                    exact row_cell (hw3.item (i := row Bb Ob (some ⟨gb, 0, none⟩) tr.size cb 45 4 (cat nc (flat 0 tr))) (by (repeat (first | exact List.Mem.head _ | apply List.Mem.tail)))) h8
                  apply OL.alloc; rfl; rfl; exact CellsL.agg; (intro bk hbk; simp only [AllLe, and_true] at hbk)
                  apply OL.storeB; rfl; rfl; exact CellsL.agg; rfl; rfl; rfl; apply Swap.z; apply Put.here; apply Over.cons; apply Over.cons; apply Over.cons; apply Over.cons; apply Over.nil
                  apply OL.nil
                  with_reducible apply At.next
                  apply W.seq
                  apply W.seq
                  apply W.reg
                  apply ofa; rfl; rfl; rfl
                  apply old; rfl; rfl; exact .head _; rfl; rfl
                  apply obn; rfl; rfl; rfl; apply Bin.str_neq
                  apply OL.nil
                  with_reducible apply At.next
                  revert bk
                  intro b22 hb22
                  refine W.joinc [(22, true, .pointer (some ⟨b22, 0, none⟩)), (121, true, .int .i64 (j2 : Int)), (120, true, .int .i64 (tr.size : Int)), (119, true, .slice (some ⟨gb, 0, none⟩) tr.size cb), (18, true, .slice (some ⟨gb, 0, none⟩) tr.size cb), (20, true, .int .i64 (tl.size : Int)), (16, true, .slice q1 (tl.size + j2) c1), (10, true, .int .i64 ((2 * j + 1 : Nat) : Int)), (1, true, .slice (some ai) its.length icp)]
                    (Cls [blk b22 45 [.string (mv tl.size x).op, .int .i64 (mv tl.size x).n, .int .i64 (mv tl.size x).a, .int .i64 (mv tl.size x).b], row Bb Ob (some ⟨gb, 0, none⟩) tr.size cb 45 4 (cat nc (flat 0 tr)), row Ba O1 q1 (tl.size + j2) c1 45 4 (cat nc (flat 0 tl ++ ((flat 0 tr).take j2).map (mv (tl.size : Int))))] [w]) ?_ ?_
                  · (refine W.cond rfl (fun hop2 => ?_) (fun hop2 => ?_)) <;> (try (simp only [Bool.and_eq_true, Bool.or_eq_true, Bool.not_eq_true', Bool.and_eq_false_iff, Bool.or_eq_false_iff, Bool.not_eq_false', decide_eq_true_eq, decide_eq_false_iff_not, Int.not_lt, Int.not_le] at hop2)) <;> (try (exfalso; first | omega | exact hop2 trivial | contradiction))
                    · have hm2 : mv tl.size x = ⟨x.op, x.n, x.a + tl.size, x.b + tl.size⟩ := by rw [mv, if_neg hop2]
                      apply W.reg
                      apply ofa; rfl; rfl; rfl
                      apply old; rfl; rfl; exact .head _; rfl; rfl
                      apply omv; rfl; rfl
                      apply obn; rfl; rfl; rfl; apply Bin.add_in; omega
                      apply ofa; rfl; rfl; rfl
                      apply old; rfl; rfl; exact .head _; rfl; rfl
                      apply omv; rfl; rfl
                      apply obn; rfl; rfl; rfl; apply Bin.add_in; omega
                      apply ofa; rfl; rfl; rfl
                      apply OL.storeB; rfl; rfl; exact CellsL.one rfl; rfl; rfl; rfl; apply Swap.z; apply Put.skip; apply Put.skip; apply Put.here; apply Over.cons; apply Over.nil
                      apply ofa; rfl; rfl; rfl
                      apply OL.storeB; rfl; rfl; exact CellsL.one rfl; rfl; rfl; rfl; apply Swap.z; apply Put.skip; apply Put.skip; apply Put.skip; apply Put.here; apply Over.cons; apply Over.nil
                      apply OL.nil
                      exact At.joined (by (repeat (first | exact Sub.nil | apply Sub.cons rfl))) (fun w' hw' => by rw [hm2]; exact hw')
                    · have hm2 : mv tl.size x = x := by rw [mv, if_pos (by simpa using hop2)]
                      apply W.skip
                      exact At.joined (by (repeat (first | exact Sub.nil | apply Sub.cons rfl))) (fun w' hw' => by rw [hm2]; exact hw')
                  have e3 : cat nc (flat 0 tl ++ ((flat 0 tr).take (j2 + 1)).map (mv (tl.size : Int))) = cat nc (flat 0 tl ++ ((flat 0 tr).take j2).map (mv (tl.size : Int))) ++ [.string (mv tl.size x).op, .int .i64 (mv tl.size x).n, .int .i64 (mv tl.size x).a, .int .i64 (mv tl.size x).b] := by
                    rw [List.take_add_one, hx, List.map_append, ← List.append_assoc, cat_append]
                    rfl
                  generalize mv tl.size x = xm at e3 ⊢
                  apply W.reg
                  apply omv; rfl; rfl
                  apply OL.op; exact Guard.none; rfl; rfl; apply Pev.load_blkA; rfl; exact yes; exact .head _; rfl; apply Take.succ; apply Take.succ; apply Take.succ; apply Take.succ; apply Take.zero
                  apply OL.buildSlice; rfl; rfl; rfl; apply Elems.cons rfl; exact CellsL.agg; rfl; apply Elems.nil; apply App.cons; apply App.cons; apply App.cons; apply App.cons; apply App.nil; rfl; rfl; (intro bk hbk; simp only [AllLe, and_true] at hbk)
                  apply OL.appendP; rfl; rfl; rfl; rfl; apply Hole.s; apply Hole.s; apply Hole.s; apply Hole.z; exact .head _; apply Take.succ; apply Take.succ; apply Take.succ; apply Take.succ; apply Take.zero; rfl; rfl; omega; omega; intro O1 g1 cap1
                  apply oas; rfl; rfl
                  apply OL.nil
                  with_reducible apply At.in_normal
                  with_reducible apply At.next
                  apply W.reg
                  apply obn; rfl; rfl; rfl; apply Bin.add_in; omega
                  apply omv; rfl; rfl
                  apply OL.nil
                  exact At.again ⟨j2 + 1, some ⟨g1, 0, none⟩, cap1, O1⟩ (by simp only; omega) (by simp only; omega) (by (repeat (first | exact Sub.nil | apply Sub.cons rfl))) (fun w' hw' => by simp only [e3]; exact hw'.thin (by (repeat (first | exact Thin.nil | exact Thin.same | apply Thin.keep | (refine Thin.blk (by assumption) ?_) | (refine Thin.blk (by simp only [AllLe, and_true]; omega) ?_)))))
                · obtain rfl : j2 = tr.size := by omega
                  obtain ⟨ax, o', hae, _, ho', hcello⟩ := hi.elem ilen (by decide) (show 2 * j + 1 < its.length by omega)
                  cases hae
                  rw [ho] at ho'
                  obtain rfl := Option.some.inj ho'
                  unfold ic at hcello
                  rw [List.take_of_length_le (by omega), hmv]
                  generalize hgi : 2 * j + 1 = i at ho hcello ⊢
                  apply W.exit
                  with_reducible apply At.then_exit
                  with_reducible apply At.then_exit
                  with_reducible apply At.in_exit
                  with_reducible apply At.next
                  apply W.seq
                  apply W.reg
                  apply omv; rfl; rfl
                  apply omv; rfl; rfl
                  apply omv; rfl; rfl
                  apply OL.op; exact Guard.none; rfl; rfl; apply Pev.idx; rfl; exact yes; rfl; exact yes; rfl; rfl; intro hcond; omega
                  apply OL.op; exact Guard.none; rfl; rfl; apply Pev.fldA; rfl; exact yes; rfl
                  apply OL.op; exact Guard.none; rfl; rfl; apply Pev.load_kept; rfl; exact yes; exact .head _; rfl; intro hcond; apply CellsAt.at_ (by assumption) rfl; intro hcond; (simp only [add_block]; assumption); intro hcond; simp only [add_block]; refine NotOwned.row (by omega) ?_; refine NotOwned.row (by omega) ?_; exact NotOwned.nil
                  apply omv; rfl; rfl
                  apply OL.op; exact Guard.none; rfl; rfl; apply Pev.len_slice; rfl; exact yes; rfl
                  apply omv; rfl; rfl
                  apply OL.op; exact Guard.none; rfl; rfl; apply Pev.len_slice; rfl; exact yes; rfl
                  apply obn; rfl; rfl; rfl; apply Bin.sub_in; omega
                  apply obn; rfl; rfl; rfl; apply Bin.sub_in; omega
                  apply omv; rfl; rfl
                  apply OL.op; exact Guard.none; rfl; rfl; apply Pev.len_slice; rfl; exact yes; rfl
                  apply obn; rfl; rfl; rfl; apply Bin.sub_in; omega
                  apply OL.op; exact Guard.none; rfl; rfl; apply Pev.build; rfl; exact CellsL.agg; rfl; apply Fill.cons rfl; exact CellsL.one rfl; rfl; rfl; apply Put.here; apply Over.cons; apply Over.nil; apply Fill.cons rfl; exact CellsL.one rfl; rfl; rfl; apply Put.skip; apply Put.skip; apply Put.here; apply Over.cons; apply Over.nil; apply Fill.cons rfl; exact CellsL.one rfl; rfl; rfl; apply Put.skip; apply Put.skip; apply Put.skip; apply Put.here; apply Over.cons; apply Over.nil; apply Fill.nil; rfl
                  apply OL.buildSlice; rfl; rfl; rfl; apply Elems.cons rfl; exact CellsL.agg; rfl; apply Elems.nil; apply App.cons; apply App.cons; apply App.cons; apply App.cons; apply App.nil; rfl; rfl; (intro bk hbk; simp only [AllLe, and_true] at hbk)
                  apply OL.appendP; rfl; rfl; rfl; rfl; apply Hole.s; apply Hole.s; apply Hole.z; exact .head _; apply Take.succ; apply Take.succ; apply Take.succ; apply Take.succ; apply Take.zero; rfl; rfl; omega; omega; intro O1 g1 cap1
                  apply oas; rfl; rfl
                  apply oas; rfl; rfl
                  apply OL.nil
                  with_reducible apply At.next
                  apply W.ret
                  ((with_reducible apply At.fin2); rfl; rfl; rfl; intro w' hw')
                  have hfin : flat 0 (.node o.op tl tr) = (flat 0 tl ++ flat tl.size tr) ++ [⟨o.op, 0, ((tl.size + tr.size : Nat) : Int) - (tr.size : Int) - 1, ((tl.size + tr.size : Nat) : Int) - 1⟩] := by
                    rw [flat, Nat.zero_add]
                    congr 3 <;> omega
                  have hrow := hw'.item (i := row Ba O1 (some ⟨g1, 0, none⟩) (tl.size + tr.size + 1) cap1 45 4 (cat nc (flat 0 tl ++ flat tl.size tr) ++ [.string o.op, .int .i64 0, .int .i64 (((tl.size + tr.size : Nat) : Int) - (tr.size : Int) - 1), .int .i64 (((tl.size + tr.size : Nat) : Int) - 1)])) (by (repeat (first | exact List.Mem.head _ | apply List.Mem.tail)))
                  have hln : (flat 0 (.node o.op tl tr)).length = tl.size + tr.size + 1 := flat_length _ 0
                  have hcat : cat nc (flat 0 (.node o.op tl tr)) = cat nc (flat 0 tl ++ flat tl.size tr) ++ [.string o.op, .int .i64 0, .int .i64 (((tl.size + tr.size : Nat) : Int) - (tr.size : Int) - 1), .int .i64 (((tl.size + tr.size : Nat) : Int) - 1)] := by
                    rw [hfin, cat_append, cat_one]; rfl
                  refine ⟨⟨some ⟨g1, 0, none⟩, cap1, fun k => Ba ≤ k ∧ O1 k⟩, by rw [hR, hln], by (exact hw'.toExt (by (repeat (first | exact List.Mem.head _ | apply List.Mem.tail))) (fun k hk => by (focus ((try simp only [add_block]); (repeat (first | exact NotOwned.nil | exact hno _ (by omega) | refine NotOwned.nothing ?_ | apply NotOwned.bif | refine NotOwned.blk (by omega) ?_ | refine NotOwned.row (by omega) ?_ | refine NotOwned.grid (by assumption) (by omega) ?_)); done)))), ?_, fun k hk => ?_⟩
                  · rw [hR]
                    simp only
                    rw [hln, hcat]
                    exact row_base hrow hBa
                  · exact hw'.lt (row Ba O1 (some ⟨g1, 0, none⟩) (tl.size + tr.size + 1) cap1 45 4 (cat nc (flat 0 tl ++ flat tl.size tr) ++ [.string o.op, .int .i64 0, .int .i64 (((tl.size + tr.size : Nat) : Int) - (tr.size : Int) - 1), .int .i64 (((tl.size + tr.size : Nat) : Int) - 1)])) (by (repeat (first | exact List.Mem.head _ | apply List.Mem.tail))) k hk.2
end Go.Proofs.Ytmmjkpbpmhaooaa.fx
