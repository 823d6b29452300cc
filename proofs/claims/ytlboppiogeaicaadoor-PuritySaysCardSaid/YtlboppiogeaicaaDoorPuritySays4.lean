/- Texts of the proof of PuritySays, part 4: rules of a calculus for walking, plain laws, and walks of the functions that the law reaches. No condition. -/
import Derived.Test.YtlboppiogeaicaaDoorPuritySays3
/- The walks of purity's primEffect and own. Conditions: none. -/
namespace Go.Co
open Go.Eng Go.RowKit
set_option linter.unusedVariables false
set_option linter.unusedSimpArgs false
/-- the kids of a node, as the walks reach them -/
structure Kd (w : World) (a : Addr) (ks : List Sn) : Prop where
  at_ : ∀ (i : Nat) (k : Sn), ks[i]? = some k → ∃ b, b < w.heap.size ∧ w.cell? (a.add ((i : Int).toNat * 1)) = some (.pointer (some ⟨b, 0, none⟩)) ∧ TrO w (low w) k.tr b
theorem Kd.of {w : World} {a : Addr} {ks : List Sn} (h : TrsO w (low w) (ks.map Sn.tr) a) : Kd w a ks := ⟨fun i k hi => by
  obtain ⟨b, h1, h2⟩ := h.get (i := i) (t := k.tr) (by rw [List.getElem?_map, hi]; rfl)
  obtain ⟨_, hb, _⟩ := h2.cells
  exact ⟨b, hb, by rw [Int.toNat_natCast]; exact h1, h2⟩⟩
end Go.Co
namespace Go.Eng
theorem Pev.noc {P : Program} {n : Nat} {l : Env} {C : World → Prop} {o : Oper} {c : Bool} (h : c = false) : Pev P n l C o c (.bool false) := ⟨fun h2 => by rw [h] at h2; cases h2⟩
end Go.Eng
namespace Go.Proofs.YtlboppiogeaicaaDoor.co
open Go.RowKit Go.Eng Go.Co
set_option linter.unusedVariables false
set_option linter.unusedSimpArgs false
set_option maxRecDepth 100000
theorem primEffect_calls (op n : Int) (binds : List Int) (ks : List Sn) (alts : List Al) (b : Nat) (w : World) (ht : TrO w (low w) (.mk op n binds (ks.map Sn.tr) alts) b) (hk : 1 ≤ ks.length) (hk2 : ¬ (n = 7 ∨ n = 9) → 2 ≤ ks.length) :
    Calls Tryd.prog 84 [.pointer (some ⟨b, 0, none⟩)].toArray w fun e w' => e = .returned (.int .i64 (primS n ks)) ∧ Ext w w' := by
  obtain ⟨y, hb, h0, h1, h2, h3, h4, hI, hbl, hA, hal, hab, hks, hkl⟩ := ht.cells
  have hb : b < w.heap.size := hb
  rw [List.length_map] at hks h3 hkl
  obtain ⟨a, hqa, haa, htrs⟩ := hks (by omega)
  have haa : a.block < w.heap.size := haa
  have hkd := Kd.of htrs
  obtain ⟨k0, hk0⟩ : ∃ k0, ks[0]? = some k0 := ⟨_, List.getElem?_eq_getElem (by omega)⟩
  obtain ⟨b0, hb0, hc0, ht0⟩ := hkd.at_ 0 k0 hk0
  have hc0 : w.cell? (a.add ((0 : Int).toNat * 1)) = some (.pointer (some ⟨b0, 0, none⟩)) := hc0
  have hg0 : ks.getD 0 sn0 = k0 := by rw [List.getD_eq_getElem?_getD, hk0]; rfl
  rw [hqa] at h3
  refine enter Tryd.func84 rfl Tryd.ntmps84 rfl (Cls.start w) ?_
  (simp only [argEnv, Nat.zero_add, Nat.reduceAdd])
  apply W.sr
  apply oas; rfl; rfl
  apply OL.nsr
  apply omv; rfl; rfl
  apply oop; rfl; apply Pev.nil_ptr; rfl; exact yes
  apply ofa; rfl; rfl; rfl
  apply oop; rfl; apply Pev.load_kept; rfl; exact yes; exact .head _; rfl; intro hcond; assumption; intro hcond; assumption; intro hcond; exact NotOwned.au
  apply oop; rfl; apply Pev.idx; rfl; exact yes; rfl; exact yes; rfl; rfl; intro hcond; (simp only [Bool.and_eq_true, Bool.or_eq_true, Bool.not_eq_true', decide_eq_true_eq, decide_eq_false_iff_not] at *; omega)
  apply oop; rfl; apply Pev.load_kept; rfl; exact yes; exact .head _; rfl; intro hcond; assumption; intro hcond; assumption; intro hcond; exact NotOwned.au
  (((first | (with_reducible apply OL.op) | (with_reducible apply QL.op)); (exact Guard.au); rfl; rfl); (exact Pev.call (v := .bool (wordS k0)) rfl (by exact Args.au) (fun _ w2 hw2 => (wordly_calls k0 b0 w2 (ht0.at hw2 (by exact mau) (fun k hk => by exact NotOwned.au))).mono (fun e w3 h => ⟨h.1, hw2.ext h.2⟩))))
  by_cases hk1 : ks.length = 1
  · have hn79 : n = 7 ∨ n = 9 := by
      by_cases h : n = 7 ∨ n = 9
      · exact h
      · have := hk2 h; omega
    have hd : decide ((ks.length : Int) = 1) = true := by simp [hk1]
    apply omv; rfl; rfl
    apply oy; rfl; rfl; rfl; apply Pev.move; rfl; exact yes
    apply oy; rfl; rfl; rfl; apply Pev.nil_ptr; rfl; exact fun h => h
    apply oy; rfl; rfl; rfl; apply Pev.fld; rfl; exact fun h => h; rfl
    apply oy; rfl; rfl; rfl; apply Pev.load_kept; rfl; exact fun h => h; exact .head _; rfl; intro hcond; assumption; intro hcond; assumption; intro hcond; exact NotOwned.au
    apply oy; rfl; rfl; rfl; apply Pev.len_slice; rfl; exact fun h => h; rfl
    apply oy; rfl; rfl; rfl; apply Pev.bin; rfl; exact fun h => h; rfl; exact yes; intro hcond; apply Bin.eql
    apply oy; rfl; rfl; rfl; apply Pev.move; rfl; exact fun h => h
    apply OL.op; exact Guard.cno rfl rfl; rfl; rfl; apply Pev.move; rfl; exact yes
    apply OL.op; exact Guard.cno rfl rfl; rfl; rfl; apply Pev.nil_ptr; rfl; exact fun h => h
    apply OL.op; exact Guard.cno rfl rfl; rfl; rfl; apply Pev.fld; rfl; exact fun h => h; rfl
    apply OL.op; exact Guard.cno rfl rfl; rfl; rfl; apply Pev.load_kept; rfl; exact fun h => h; exact .head _; rfl; intro hcond; assumption; intro hcond; assumption; intro hcond; exact NotOwned.au
    apply OL.op; exact Guard.cno rfl rfl; rfl; rfl; apply Pev.idx; rfl; exact fun h => h; rfl; exact yes; rfl; rfl; intro hcond; (simp only [Bool.and_eq_true, Bool.or_eq_true, Bool.not_eq_true', decide_eq_true_eq, decide_eq_false_iff_not] at hcond; omega)
    apply OL.gateOff; exact Guard.cno rfl rfl; (simp; omega); rfl
    apply OL.gateOff; exact Guard.cno rfl rfl; (simp; omega); rfl
    apply oy; rfl; rfl; rfl; apply Pev.pick_on; rfl; exact fun h => h; (intro hcond; simp; omega); rfl; exact yes
    apply oop; rfl; apply Pev.pick_and; rfl; exact yes; rfl; exact fun h => h
    apply oas; rfl; rfl
    apply OL.nx
    apply W.seq
    apply W.sr
    apply omv; rfl; rfl
    apply oop; rfl; apply Pev.nil_ptr; rfl; exact yes
    apply ofa; rfl; rfl; rfl
    apply oop; rfl; apply Pev.load_kept; rfl; exact yes; exact .head _; rfl; intro hcond; assumption; intro hcond; assumption; intro hcond; exact NotOwned.au
    apply OL.nx
    apply W.block
    apply W.sr
    apply obn; rfl; rfl; rfl; apply Bin.eql
    apply oas; rfl; rfl
    apply OL.nx
    rcases hn79 with rfl | rfl
    · refine W.cond rfl (fun _ => ?_) (fun hb => by simp at hb)
      apply W.sr
      apply oas; rfl; rfl
      apply OL.nx
      refine W.rt ?_
      ((with_reducible apply At.fin1); rfl; rfl; intro w' hw')
      exact ⟨rfl, by (exact hw'.fr)⟩
    · refine W.cond rfl (fun hb => by simp at hb) (fun _ => ?_)
      apply W.seq
      apply W.sr
      apply obn; rfl; rfl; rfl; apply Bin.eql
      apply oas; rfl; rfl
      apply OL.nx
      refine W.cond rfl (fun hb => by simp at hb) (fun _ => ?_)
      apply W.reg
      apply obn; rfl; rfl; rfl; apply Bin.eql
      apply oas; rfl; rfl
      apply OL.nx
      refine W.cond rfl (fun hb => by simp at hb) (fun _ => ?_)
      apply W.sr
      apply obn; rfl; rfl; rfl; apply Bin.eql
      apply oas; rfl; rfl
      apply OL.nx
      refine W.cond rfl (fun hb => by simp at hb) (fun _ => ?_)
      apply W.sr
      apply obn; rfl; rfl; rfl; apply Bin.eql
      apply oas; rfl; rfl
      apply OL.nx
      refine W.cond rfl (fun _ => ?_) (fun hb => by simp at hb)
      apply W.sr
      apply oas; rfl; rfl
      apply OL.nx
      refine W.rt ?_
      ((with_reducible apply At.fin1); rfl; rfl; intro w' hw')
      exact ⟨rfl, by (exact hw'.fr)⟩
  · have hk22 : 2 ≤ ks.length := by omega
    obtain ⟨k1, hk1⟩ : ∃ k1, ks[1]? = some k1 := ⟨_, List.getElem?_eq_getElem (by omega)⟩
    obtain ⟨b1, hb1, hc1, ht1⟩ := hkd.at_ 1 k1 hk1
    have hc1 : w.cell? (a.add ((1 : Int).toNat * 1)) = some (.pointer (some ⟨b1, 0, none⟩)) := hc1
    have hg1 : ks.getD 1 sn0 = k1 := by rw [List.getD_eq_getElem?_getD, hk1]; rfl
    obtain ⟨y1, _, g0, g1, _⟩ := ht1.cells
    apply omv; rfl; rfl
    apply oy; rfl; rfl; rfl; apply Pev.move; rfl; exact yes
    apply oy; rfl; rfl; rfl; apply Pev.nil_ptr; rfl; exact fun h => h
    apply oy; rfl; rfl; rfl; apply Pev.fld; rfl; exact fun h => h; rfl
    apply oy; rfl; rfl; rfl; apply Pev.load_kept; rfl; exact fun h => h; exact .head _; rfl; intro hcond; assumption; intro hcond; assumption; intro hcond; exact NotOwned.au
    apply oy; rfl; rfl; rfl; apply Pev.len_slice; rfl; exact fun h => h; rfl
    apply oy; rfl; rfl; rfl; apply Pev.bin; rfl; exact fun h => h; rfl; exact yes; intro hcond; apply Bin.eql
    apply oy; rfl; rfl; rfl; apply Pev.move; rfl; exact fun h => h
    apply OL.op; exact Guard.cno rfl rfl; rfl; rfl; apply Pev.move; rfl; exact yes
    apply OL.op; exact Guard.cno rfl rfl; rfl; rfl; apply Pev.nil_ptr; rfl; exact fun h => h
    apply OL.op; exact Guard.cno rfl rfl; rfl; rfl; apply Pev.fld; rfl; exact fun h => h; rfl
    apply OL.op; exact Guard.cno rfl rfl; rfl; rfl; apply Pev.load_kept; rfl; exact fun h => h; exact .head _; rfl; intro hcond; assumption; intro hcond; assumption; intro hcond; exact NotOwned.au
    apply OL.op; exact Guard.cno rfl rfl; rfl; rfl; apply Pev.idx; rfl; exact fun h => h; rfl; exact yes; rfl; rfl; intro hcond; (simp only [Bool.and_eq_true, Bool.or_eq_true, Bool.not_eq_true', decide_eq_true_eq, decide_eq_false_iff_not] at *; omega)
    apply OL.op; exact Guard.cno rfl rfl; rfl; rfl; apply Pev.load_kept; rfl; exact fun h => h; exact .head _; rfl; intro hcond; assumption; intro hcond; assumption; intro hcond; exact NotOwned.au
    (((first | (with_reducible apply OL.op) | (with_reducible apply QL.op)); (exact Guard.au); rfl; rfl); (exact Pev.call (v := .bool (wordS k1)) rfl (by exact Args.au) (fun _ w2 hw2 => (wordly_calls k1 b1 w2 (ht1.at hw2 (by exact mau) (fun k hk => by exact NotOwned.au))).mono (fun e w3 h => ⟨h.1, hw2.ext h.2⟩))))
    have hws : wordsS ks = (wordS k0 && wordS k1) := by
      unfold wordsS
      rw [hg0, hg1, decide_eq_false (by omega)]
      rfl
    have hne : ¬ ((ks.length : Int) = 1) := by omega
    apply oy; rfl; rfl; rfl; apply Pev.pick_or; rfl; exact fun h => h; rfl; exact fun h => h
    apply oop; rfl; apply Pev.pick_and; rfl; exact yes; rfl; exact fun h => h
    apply oas; rfl; rfl
    apply OL.nx
    apply W.seq
    apply W.sr
    apply omv; rfl; rfl
    apply oop; rfl; apply Pev.nil_ptr; rfl; exact yes
    apply ofa; rfl; rfl; rfl
    apply oop; rfl; apply Pev.load_kept; rfl; exact yes; exact .head _; rfl; intro hcond; assumption; intro hcond; assumption; intro hcond; exact NotOwned.au
    apply OL.nx
    apply W.block
    apply W.sr
    apply obn; rfl; rfl; rfl; apply Bin.eql
    apply oas; rfl; rfl
    apply OL.nx
    (refine W.cnd (fun h7 => ?_) (fun h7 => ?_)) <;> (try (exfalso; first | omega | exact h7 trivial | contradiction))
    · apply W.sr
      apply oas; rfl; rfl
      apply OL.nx
      refine W.rt ?_
      ((with_reducible apply At.fin1); rfl; rfl; intro w' hw')
      exact ⟨by rw [h7]; rfl, by (exact hw'.fr)⟩
    apply W.seq
    apply W.sr
    apply obn; rfl; rfl; rfl; apply Bin.eql
    apply oas; rfl; rfl
    apply OL.nx
    (refine W.cnd (fun h8 => ?_) (fun h8 => ?_)) <;> (try (exfalso; first | omega | exact h8 trivial | contradiction))
    · apply W.sk
      refine W.cond rfl (fun _ => ?_) (fun hb => by simp [h8] at hb)
      apply W.sr
      apply oas; rfl; rfl
      apply OL.nx
      refine W.rt ?_
      ((with_reducible apply At.fin1); rfl; rfl; intro w' hw')
      exact ⟨by rw [h8]; rfl, by (exact hw'.fr)⟩
    apply W.reg
    apply obn; rfl; rfl; rfl; apply Bin.eql
    apply oas; rfl; rfl
    apply OL.nx
    (refine W.cnd (fun h11 => ?_) (fun h11 => ?_)) <;> (try (exfalso; first | omega | exact h11 trivial | contradiction))
    · apply W.sr
      apply oas; rfl; rfl
      apply OL.nx
      refine W.rt ?_
      ((with_reducible apply At.fin1); rfl; rfl; intro w' hw')
      exact ⟨by rw [h11]; rfl, by (exact hw'.fr)⟩
    apply W.sr
    apply obn; rfl; rfl; rfl; apply Bin.eql
    apply oas; rfl; rfl
    apply OL.nx
    (refine W.cnd (fun h10 => ?_) (fun h10 => ?_)) <;> (try (exfalso; first | omega | exact h10 trivial | contradiction))
    · apply W.sr
      apply oas; rfl; rfl
      apply OL.nx
      refine W.rt ?_
      ((with_reducible apply At.fin1); rfl; rfl; intro w' hw')
      exact ⟨by rw [h10]; rfl, by (exact hw'.fr)⟩
    apply W.sr
    apply obn; rfl; rfl; rfl; apply Bin.eql
    apply oas; rfl; rfl
    apply OL.nx
    (refine W.cnd (fun h9 => ?_) (fun h9 => ?_)) <;> (try (exfalso; first | omega | exact h9 trivial | contradiction))
    · apply W.sr
      apply oas; rfl; rfl
      apply OL.nx
      refine W.rt ?_
      ((with_reducible apply At.fin1); rfl; rfl; intro w' hw')
      exact ⟨by rw [h9]; rfl, by (exact hw'.fr)⟩
    apply W.seq
    apply W.sr
    apply obn; rfl; rfl; rfl; apply Bin.eql
    apply oas; rfl; rfl
    apply OL.nx
    (refine W.cnd (fun h3 => ?_) (fun h3 => ?_)) <;> (try (exfalso; first | omega | exact h3 trivial | contradiction))
    · apply W.sk
      refine W.cond rfl (fun _ => ?_) (fun hb => by simp [h3] at hb)
      apply W.seq
      apply W.sr
      apply omv; rfl; rfl
      apply omv; rfl; rfl
      apply oy; rfl; rfl; rfl; apply Pev.move; rfl; exact yes
      apply oy; rfl; rfl; rfl; apply Pev.nil_ptr; rfl; exact fun h => h
      apply oy; rfl; rfl; rfl; apply Pev.fld; rfl; exact fun h => h; rfl
      apply oy; rfl; rfl; rfl; apply Pev.load_kept; rfl; exact fun h => h; exact .head _; rfl; intro hcond; assumption; intro hcond; assumption; intro hcond; exact NotOwned.au
      apply oy; rfl; rfl; rfl; apply Pev.idx; rfl; exact fun h => h; rfl; exact yes; rfl; rfl; intro hcond; (simp only [Bool.and_eq_true, Bool.or_eq_true, Bool.not_eq_true', decide_eq_true_eq, decide_eq_false_iff_not] at *; omega)
      apply oy; rfl; rfl; rfl; apply Pev.load_kept; rfl; exact fun h => h; exact .head _; rfl; intro hcond; assumption; intro hcond; assumption; intro hcond; exact NotOwned.au
      apply oy; rfl; rfl; rfl; apply Pev.nil_ptr; rfl; exact fun h => h
      apply oy; rfl; rfl; rfl; apply Pev.fld; rfl; exact fun h => h; rfl
      apply oy; rfl; rfl; rfl; apply Pev.load_kept; rfl; exact fun h => h; exact .head _; rfl; intro hcond; assumption; intro hcond; assumption; intro hcond; exact NotOwned.au
      apply oy; rfl; rfl; rfl; apply Pev.bin; rfl; exact fun h => h; rfl; exact yes; intro hcond; apply Bin.eql
      apply oop; rfl; apply Pev.pick_and; rfl; exact yes; rfl; exact fun h => h
      apply omv; rfl; rfl
      apply oy; rfl; rfl; rfl; apply Pev.move; rfl; exact yes
      apply oy; rfl; rfl; rfl; apply Pev.nil_ptr; rfl; exact fun h => h
      apply oy; rfl; rfl; rfl; apply Pev.fld; rfl; exact fun h => h; rfl
      apply oy; rfl; rfl; rfl; apply Pev.load_kept; rfl; exact fun h => h; exact .head _; rfl; intro hcond; assumption; intro hcond; assumption; intro hcond; exact NotOwned.au
      apply oy; rfl; rfl; rfl; apply Pev.idx; rfl; exact fun h => h; rfl; exact yes; rfl; rfl; intro hcond; (simp only [Bool.and_eq_true, Bool.or_eq_true, Bool.not_eq_true', decide_eq_true_eq, decide_eq_false_iff_not] at *; omega)
      apply oy; rfl; rfl; rfl; apply Pev.load_kept; rfl; exact fun h => h; exact .head _; rfl; intro hcond; assumption; intro hcond; assumption; intro hcond; exact NotOwned.au
      apply oy; rfl; rfl; rfl; apply Pev.nil_ptr; rfl; exact fun h => h
      apply oy; rfl; rfl; rfl; apply Pev.fld; rfl; exact fun h => h; rfl
      apply oy; rfl; rfl; rfl; apply Pev.load_kept; rfl; exact fun h => h; exact .head _; rfl; intro hcond; assumption; intro hcond; assumption; intro hcond; exact NotOwned.au
      apply oy; rfl; rfl; rfl; apply Pev.bin; rfl; exact fun h => h; rfl; exact yes; intro hcond; apply Bin.neq
      apply oop; rfl; apply Pev.pick_and; rfl; exact yes; rfl; exact fun h => h
      apply OL.nx
      have hpr : primS n ks = if wordsS ks = true ∧ k1.op = 1 ∧ k1.n ≠ 0 then 0 else 2 := by
        unfold primS
        rw [if_neg h7, if_neg (by omega), if_neg h10, if_neg h9, if_pos (by omega), hg1]
      refine W.cond rfl (fun hc => ?_) (fun hc => ?_)
      · have hcc : wordsS ks = true ∧ k1.op = 1 ∧ k1.n ≠ 0 := by
          rw [hws]
          by_cases a1 : wordS k0 = true <;> by_cases a2 : wordS k1 = true <;> by_cases a3 : k1.op = 1 <;> by_cases a4 : k1.n = 0 <;> simp [a1, a2, a3, a4, hne] at hc ⊢
        rw [if_pos hcc] at hpr
        apply W.sr
        apply oas; rfl; rfl
        apply OL.nx
        refine W.rt ?_
        ((with_reducible apply At.fin1); rfl; rfl; intro w' hw')
        exact ⟨by rw [hpr], by (exact hw'.fr)⟩
      · have hcc : ¬ (wordsS ks = true ∧ k1.op = 1 ∧ k1.n ≠ 0) := by
          rw [hws]
          by_cases a1 : wordS k0 = true <;> by_cases a2 : wordS k1 = true <;> by_cases a3 : k1.op = 1 <;> by_cases a4 : k1.n = 0 <;> simp [a1, a2, a3, a4, hne] at hc ⊢
        rw [if_neg hcc] at hpr
        apply W.sk
        apply W.sr
        apply oas; rfl; rfl
        apply OL.nx
        refine W.rt ?_
        ((with_reducible apply At.fin1); rfl; rfl; intro w' hw')
        exact ⟨by rw [hpr], by (exact hw'.fr)⟩
    apply W.reg
    apply obn; rfl; rfl; rfl; apply Bin.eql
    apply oas; rfl; rfl
    apply OL.nx
    (refine W.cnd (fun h4 => ?_) (fun h4 => ?_)) <;> (try (exfalso; first | omega | exact h4 trivial | contradiction))
    · apply W.seq
      apply W.sr
      apply omv; rfl; rfl
      apply omv; rfl; rfl
      apply oy; rfl; rfl; rfl; apply Pev.move; rfl; exact yes
      apply oy; rfl; rfl; rfl; apply Pev.nil_ptr; rfl; exact fun h => h
      apply oy; rfl; rfl; rfl; apply Pev.fld; rfl; exact fun h => h; rfl
      apply oy; rfl; rfl; rfl; apply Pev.load_kept; rfl; exact fun h => h; exact .head _; rfl; intro hcond; assumption; intro hcond; assumption; intro hcond; exact NotOwned.au
      apply oy; rfl; rfl; rfl; apply Pev.idx; rfl; exact fun h => h; rfl; exact yes; rfl; rfl; intro hcond; (simp only [Bool.and_eq_true, Bool.or_eq_true, Bool.not_eq_true', decide_eq_true_eq, decide_eq_false_iff_not] at *; omega)
      apply oy; rfl; rfl; rfl; apply Pev.load_kept; rfl; exact fun h => h; exact .head _; rfl; intro hcond; assumption; intro hcond; assumption; intro hcond; exact NotOwned.au
      apply oy; rfl; rfl; rfl; apply Pev.nil_ptr; rfl; exact fun h => h
      apply oy; rfl; rfl; rfl; apply Pev.fld; rfl; exact fun h => h; rfl
      apply oy; rfl; rfl; rfl; apply Pev.load_kept; rfl; exact fun h => h; exact .head _; rfl; intro hcond; assumption; intro hcond; assumption; intro hcond; exact NotOwned.au
      apply oy; rfl; rfl; rfl; apply Pev.bin; rfl; exact fun h => h; rfl; exact yes; intro hcond; apply Bin.eql
      apply oop; rfl; apply Pev.pick_and; rfl; exact yes; rfl; exact fun h => h
      apply omv; rfl; rfl
      apply oy; rfl; rfl; rfl; apply Pev.move; rfl; exact yes
      apply oy; rfl; rfl; rfl; apply Pev.nil_ptr; rfl; exact fun h => h
      apply oy; rfl; rfl; rfl; apply Pev.fld; rfl; exact fun h => h; rfl
      apply oy; rfl; rfl; rfl; apply Pev.load_kept; rfl; exact fun h => h; exact .head _; rfl; intro hcond; assumption; intro hcond; assumption; intro hcond; exact NotOwned.au
      apply oy; rfl; rfl; rfl; apply Pev.idx; rfl; exact fun h => h; rfl; exact yes; rfl; rfl; intro hcond; (simp only [Bool.and_eq_true, Bool.or_eq_true, Bool.not_eq_true', decide_eq_true_eq, decide_eq_false_iff_not] at *; omega)
      apply oy; rfl; rfl; rfl; apply Pev.load_kept; rfl; exact fun h => h; exact .head _; rfl; intro hcond; assumption; intro hcond; assumption; intro hcond; exact NotOwned.au
      apply oy; rfl; rfl; rfl; apply Pev.nil_ptr; rfl; exact fun h => h
      apply oy; rfl; rfl; rfl; apply Pev.fld; rfl; exact fun h => h; rfl
      apply oy; rfl; rfl; rfl; apply Pev.load_kept; rfl; exact fun h => h; exact .head _; rfl; intro hcond; assumption; intro hcond; assumption; intro hcond; exact NotOwned.au
      apply oy; rfl; rfl; rfl; apply Pev.bin; rfl; exact fun h => h; rfl; exact yes; intro hcond; apply Bin.neq
      apply oop; rfl; apply Pev.pick_and; rfl; exact yes; rfl; exact fun h => h
      apply OL.nx
      have hpr : primS n ks = if wordsS ks = true ∧ k1.op = 1 ∧ k1.n ≠ 0 then 0 else 2 := by
        unfold primS
        rw [if_neg h7, if_neg (by omega), if_neg h10, if_neg h9, if_pos (by omega), hg1]
      refine W.cond rfl (fun hc => ?_) (fun hc => ?_)
      · have hcc : wordsS ks = true ∧ k1.op = 1 ∧ k1.n ≠ 0 := by
          rw [hws]
          by_cases a1 : wordS k0 = true <;> by_cases a2 : wordS k1 = true <;> by_cases a3 : k1.op = 1 <;> by_cases a4 : k1.n = 0 <;> simp [a1, a2, a3, a4, hne] at hc ⊢
        rw [if_pos hcc] at hpr
        apply W.sr
        apply oas; rfl; rfl
        apply OL.nx
        refine W.rt ?_
        ((with_reducible apply At.fin1); rfl; rfl; intro w' hw')
        exact ⟨by rw [hpr], by (exact hw'.fr)⟩
      · have hcc : ¬ (wordsS ks = true ∧ k1.op = 1 ∧ k1.n ≠ 0) := by
          rw [hws]
          by_cases a1 : wordS k0 = true <;> by_cases a2 : wordS k1 = true <;> by_cases a3 : k1.op = 1 <;> by_cases a4 : k1.n = 0 <;> simp [a1, a2, a3, a4, hne] at hc ⊢
        rw [if_neg hcc] at hpr
        apply W.sk
        apply W.sr
        apply oas; rfl; rfl
        apply OL.nx
        refine W.rt ?_
        ((with_reducible apply At.fin1); rfl; rfl; intro w' hw')
        exact ⟨by rw [hpr], by (exact hw'.fr)⟩
    have hpr : primS n ks = if wordsS ks = true then 0 else 2 := by
      unfold primS
      rw [if_neg h7, if_neg (by omega), if_neg h10, if_neg h9, if_neg (by omega)]
    rw [hws] at hpr
    apply W.skip
    with_reducible apply At.in_normal
    with_reducible apply At.next
    apply W.seq
    apply W.sr
    apply omv; rfl; rfl
    apply OL.nx
    refine W.cond rfl (fun hc => ?_) (fun hc => ?_)
    · have hcc : (wordS k0 && wordS k1) = true := by
        by_cases a1 : wordS k0 = true <;> by_cases a2 : wordS k1 = true <;> simp [a1, a2, hne] at hc ⊢
      rw [if_pos hcc] at hpr
      apply W.sr
      apply oas; rfl; rfl
      apply OL.nx
      refine W.rt ?_
      ((with_reducible apply At.fin1); rfl; rfl; intro w' hw')
      exact ⟨by rw [hpr], by (exact hw'.fr)⟩
    · have hcc : ¬ (wordS k0 && wordS k1) = true := by
        by_cases a1 : wordS k0 = true <;> by_cases a2 : wordS k1 = true <;> simp [a1, a2, hne] at hc ⊢
      rw [if_neg hcc] at hpr
      apply W.sk
      apply W.sr
      apply oas; rfl; rfl
      apply OL.nx
      apply W.ret
      ((with_reducible apply At.fin1); rfl; rfl; intro w' hw')
      exact ⟨by rw [hpr], by (exact hw'.fr)⟩
theorem own_calls (op n : Int) (binds : List Int) (ks : List Sn) (alts : List Al) (b : Nat) (w : World) (ht : TrO w (low w) (.mk op n binds (ks.map Sn.tr) alts) b) (hk : op = 3 ∨ op = 7 ∨ op = 8 ∨ op = 10 ∨ op = 11 → 1 ≤ ks.length) (hk2 : op = 8 → ¬ (n = 7 ∨ n = 9) → 2 ≤ ks.length) :
    Calls Tryd.prog 52 [.pointer (some ⟨b, 0, none⟩)].toArray w fun e w' => e = .returned (.int .i64 (ownS op n ks alts)) ∧ Ext w w' := by
  have ht2 := ht
  obtain ⟨y, hb, h0, h1, h2, h3, h4, hI, hbl, hA, hal, hab, hks, hkl⟩ := ht.cells
  have hb : b < w.heap.size := hb
  rw [List.length_map] at hks h3 hkl
  refine enter Tryd.func52 rfl Tryd.ntmps52 rfl (Cls.start w) ?_
  (simp only [argEnv, Nat.zero_add, Nat.reduceAdd])
  apply W.sr
  apply oas; rfl; rfl
  apply OL.nx
  apply W.seq
  apply W.sr
  apply omv; rfl; rfl
  apply oop; rfl; apply Pev.nil_ptr; rfl; exact yes
  apply ofa; rfl; rfl; rfl
  apply oop; rfl; apply Pev.load_kept; rfl; exact yes; exact .head _; rfl; intro hcond; assumption; intro hcond; assumption; intro hcond; exact NotOwned.au
  apply OL.nx
  apply W.block
  apply W.sr
  apply obn; rfl; rfl; rfl; apply Bin.eql
  apply oas; rfl; rfl
  apply OL.nx
  (refine W.cnd (fun o17 => ?_) (fun o17 => ?_)) <;> (try (exfalso; first | omega | exact o17 trivial | contradiction))
  · apply W.sr
    apply oas; rfl; rfl
    apply OL.nx
    refine W.rt ?_
    ((with_reducible apply At.fin1); rfl; rfl; intro w' hw')
    exact ⟨by unfold ownS; rw [if_pos o17], by (exact hw'.fr)⟩
  apply W.sr
  apply obn; rfl; rfl; rfl; apply Bin.eql
  apply oas; rfl; rfl
  apply OL.nx
  (refine W.cnd (fun o8 => ?_) (fun o8 => ?_)) <;> (try (exfalso; first | omega | exact o8 trivial | contradiction))
  · have hpr : ownS op n ks alts = primS n ks := by unfold ownS; rw [if_neg o17, if_pos o8]
    apply W.sr
    apply omv; rfl; rfl
    (((first | (with_reducible apply OL.op) | (with_reducible apply QL.op)); (exact Guard.au); rfl; rfl); (exact Pev.call (v := .int .i64 (primS n ks)) rfl (by exact Args.au) (fun _ w2 hw2 => (primEffect_calls op n binds ks alts b w2 (ht2.at hw2 (by exact mau) (fun k hk => by exact NotOwned.au)) (hk (by omega)) (hk2 o8)).mono (fun e w3 h => ⟨h.1, hw2.ext h.2⟩))))
    apply oas; rfl; rfl
    apply OL.nx
    refine W.rt ?_
    ((with_reducible apply At.fin1); rfl; rfl; intro w' hw')
    exact ⟨by rw [hpr], by (exact hw'.fr)⟩
  apply W.sr
  apply obn; rfl; rfl; rfl; apply Bin.eql
  apply oas; rfl; rfl
  apply OL.nx
  (refine W.cnd (fun o3 => ?_) (fun o3 => ?_)) <;> (try (exfalso; first | omega | exact o3 trivial | contradiction))
  · have hk1 := hk (by omega)
    obtain ⟨a, hqa, haa, htrs⟩ := hks (by omega)
    have haa : a.block < w.heap.size := haa
    have hkd := Kd.of htrs
    obtain ⟨k0, hk0⟩ : ∃ k0, ks[0]? = some k0 := ⟨_, List.getElem?_eq_getElem (by omega)⟩
    obtain ⟨b0, hb0, hc0, ht0⟩ := hkd.at_ 0 k0 hk0
    have hc0 : w.cell? (a.add ((0 : Int).toNat * 1)) = some (.pointer (some ⟨b0, 0, none⟩)) := hc0
    have hg0 : ks.getD 0 sn0 = k0 := by rw [List.getD_eq_getElem?_getD, hk0]; rfl
    obtain ⟨y0, _, g0, g1, g2, _⟩ := ht0.cells
    have hpr : ownS op n ks alts = if k0.op = 2 ∧ k0.binds.length + 1 = ks.length then 0 else 63 := by unfold ownS; rw [if_neg o17, if_neg o8, if_pos o3, hg0]
    rw [hqa] at h3
    apply W.seq
    apply W.regd0; decide +kernel; kernel_rfl; decide +kernel; exact fun w hw => hw.drew
    apply qmv; rfl; rfl
    apply qop; rfl; apply Pev.nil_ptr; rfl; exact yes
    apply qfa; rfl; rfl; rfl
    apply qop; rfl; apply Pev.load_kept; rfl; exact yes; exact .head _; rfl; intro hcond; assumption; intro hcond; assumption; intro hcond; exact NotOwned.au
    apply qop; rfl; apply Pev.idx; rfl; exact yes; rfl; exact yes; rfl; rfl; intro hcond; (simp only [Bool.and_eq_true, Bool.or_eq_true, Bool.not_eq_true', decide_eq_true_eq, decide_eq_false_iff_not] at *; omega)
    apply qop; rfl; apply Pev.load_kept; rfl; exact yes; exact .head _; rfl; intro hcond; assumption; intro hcond; assumption; intro hcond; exact NotOwned.au
    apply qop; rfl; apply Pev.nil_ptr; rfl; exact yes
    apply qfa; rfl; rfl; rfl
    apply qop; rfl; apply Pev.load_kept; rfl; exact yes; exact .head _; rfl; intro hcond; assumption; intro hcond; assumption; intro hcond; exact NotOwned.au
    apply qbn; rfl; rfl; rfl; apply Bin.neq
    apply qmv; rfl; rfl
    apply qno; rfl; rfl; rfl; apply Pev.move; rfl; exact yes
    apply qno; rfl; rfl; rfl; apply Pev.nil_ptr; rfl; exact fun h => h
    apply qno; rfl; rfl; rfl; apply Pev.fld; rfl; exact fun h => h; rfl
    apply qno; rfl; rfl; rfl; apply Pev.load_kept; rfl; exact fun h => h; exact .head _; rfl; intro hcond; assumption; intro hcond; assumption; intro hcond; exact NotOwned.au
    apply qno; rfl; rfl; rfl; apply Pev.idx; rfl; exact fun h => h; rfl; exact yes; rfl; rfl; intro hcond; (simp only [Bool.and_eq_true, Bool.or_eq_true, Bool.not_eq_true', decide_eq_true_eq, decide_eq_false_iff_not] at *; omega)
    apply qno; rfl; rfl; rfl; apply Pev.load_kept; rfl; exact fun h => h; exact .head _; rfl; intro hcond; assumption; intro hcond; assumption; intro hcond; exact NotOwned.au
    apply qno; rfl; rfl; rfl; apply Pev.nil_ptr; rfl; exact fun h => h
    apply qno; rfl; rfl; rfl; apply Pev.fld; rfl; exact fun h => h; rfl
    apply qno; rfl; rfl; rfl; apply Pev.load_kept; rfl; exact fun h => h; exact .head _; rfl; intro hcond; assumption; intro hcond; assumption; intro hcond; exact NotOwned.au
    apply qno; rfl; rfl; rfl; apply Pev.len_slice; rfl; exact fun h => h; rfl
    apply qno; rfl; rfl; rfl; apply Pev.move; rfl; exact yes
    apply qno; rfl; rfl; rfl; apply Pev.nil_ptr; rfl; exact fun h => h
    apply qno; rfl; rfl; rfl; apply Pev.fld; rfl; exact fun h => h; rfl
    apply qno; rfl; rfl; rfl; apply Pev.load_kept; rfl; exact fun h => h; exact .head _; rfl; intro hcond; assumption; intro hcond; assumption; intro hcond; exact NotOwned.au
    apply qno; rfl; rfl; rfl; apply Pev.len_slice; rfl; exact fun h => h; rfl
    apply qno; rfl; rfl; rfl; apply Pev.bin; rfl; exact fun h => h; rfl; exact yes; intro hcond; apply Bin.sub_in; omega
    apply qno; rfl; rfl; rfl; apply Pev.bin; rfl; exact fun h => h; rfl; exact fun h => h; intro hcond; apply Bin.neq
    apply qop; rfl; apply Pev.pick_or; rfl; exact yes; rfl; exact fun h => h
    apply QL.nil
    with_reducible apply At.next
    refine W.cond rfl (fun hc => ?_) (fun hc => ?_)
    · have hcc : ¬ (k0.op = 2 ∧ k0.binds.length + 1 = ks.length) := fun ⟨c1, c2⟩ => by
        simp [c1] at hc
        omega
      rw [if_neg hcc] at hpr
      apply W.sr
      apply oas; rfl; rfl
      apply OL.nx
      refine W.rt ?_
      ((with_reducible apply At.fin1); rfl; rfl; intro w' hw')
      exact ⟨by rw [hpr], by (exact hw'.fr)⟩
    · have hcc : k0.op = 2 ∧ k0.binds.length + 1 = ks.length := by
        by_cases c1 : k0.op = 2
        · simp [c1] at hc
          exact ⟨c1, by omega⟩
        · simp [c1] at hc
      rw [if_pos hcc] at hpr
      apply W.skip
      with_reducible apply At.in_normal
      with_reducible apply At.next
      apply W.sr
      apply oas; rfl; rfl
      apply OL.nx
      apply W.ret
      ((with_reducible apply At.fin1); rfl; rfl; intro w' hw')
      exact ⟨by rw [hpr], by (exact hw'.fr)⟩
  apply W.sr
  apply obn; rfl; rfl; rfl; apply Bin.eql
  apply oas; rfl; rfl
  apply OL.nx
  (refine W.cnd (fun o7 => ?_) (fun o7 => ?_)) <;> (try (exfalso; first | omega | exact o7 trivial | contradiction))
  · have hk1 := hk (by omega)
    have hpr : ownS op n ks alts = if condS (ks.getD 0 sn0) alts = true then 0 else 2 := by unfold ownS; rw [if_neg o17, if_neg o8, if_neg o3, if_pos o7]
    apply W.sr
    apply omv; rfl; rfl
    (((first | (with_reducible apply OL.op) | (with_reducible apply QL.op)); (exact Guard.au); rfl; rfl); (exact Pev.call (v := .bool (condS (ks.getD 0 sn0) alts)) rfl (by exact Args.au) (fun _ w2 hw2 => (conditional_calls op n binds ks alts b w2 (ht2.at hw2 (by exact mau) (fun k hk => by exact NotOwned.au)) hk1).mono (fun e w3 h => ⟨h.1, hw2.ext h.2⟩))))
    apply oop; rfl; apply Pev.not; rfl; exact yes
    apply OL.nx
    refine W.cond rfl (fun hc => ?_) (fun hc => ?_)
    · rw [if_neg (by simpa using hc)] at hpr
      apply W.sr
      apply oas; rfl; rfl
      apply OL.nx
      refine W.rt ?_
      ((with_reducible apply At.fin1); rfl; rfl; intro w' hw')
      exact ⟨by rw [hpr], by (exact hw'.fr)⟩
    · rw [if_pos (by simpa using hc)] at hpr
      apply W.skip
      with_reducible apply At.in_normal
      with_reducible apply At.next
      apply W.sr
      apply oas; rfl; rfl
      apply OL.nx
      apply W.ret
      ((with_reducible apply At.fin1); rfl; rfl; intro w' hw')
      exact ⟨by rw [hpr], by (exact hw'.fr)⟩
  have hset : ∀ (z : Prop), (op = 10 ∨ op = 11 → z) → (¬ (op = 10 ∨ op = 11) → z) → z := fun z h1 h2 => by by_cases h : op = 10 ∨ op = 11; exact h1 h; exact h2 h
  by_cases o1 : op = 10 ∨ op = 11
  · have hk1 := hk (by omega)
    obtain ⟨a, hqa, haa, htrs⟩ := hks (by omega)
    have haa : a.block < w.heap.size := haa
    have hkd := Kd.of htrs
    obtain ⟨k0, hk0⟩ : ∃ k0, ks[0]? = some k0 := ⟨_, List.getElem?_eq_getElem (by omega)⟩
    obtain ⟨b0, hb0, hc0, ht0⟩ := hkd.at_ 0 k0 hk0
    have hc0 : w.cell? (a.add ((0 : Int).toNat * 1)) = some (.pointer (some ⟨b0, 0, none⟩)) := hc0
    have hg0 : ks.getD 0 sn0 = k0 := by rw [List.getD_eq_getElem?_getD, hk0]; rfl
    obtain ⟨y0, _, g0, g1, g2, _, _, hI0, hbl0, _⟩ := ht0.cells
    have hpr : ownS op n ks alts = if k0.op = 9 ∧ (op = 10 → n ∈ k0.binds) then 0 else 2 := by unfold ownS; rw [if_neg o17, if_neg o8, if_neg o3, if_neg o7, if_pos o1, hg0]
    rw [hqa] at h3
    apply W.seq
    apply W.sr
    apply obn; rfl; rfl; rfl; apply Bin.eql
    apply oas; rfl; rfl
    apply OL.nx
    refine W.joinx (G := Unit) (fun _ => True) (fun _ => [(0, true, .pointer (some ⟨b, 0, none⟩)), (49, true, .bool true)]) (fun _ => Cls [] [w]) ?_ ?_
    · (refine W.cnd (fun o10 => ?_) (fun o10 => ?_)) <;> (try (exfalso; first | omega | exact o10 trivial | contradiction))
      · apply W.skip
        exact At.joinedx () trivial (by rw [show decide (op = 10) = true by simp [o10]]; exact Sub.au) (fun w' hw' => hw')
      · have o11 : op = 11 := o1.resolve_left o10
        apply W.reg
        apply obn; rfl; rfl; rfl; apply Bin.eql
        apply oas; rfl; rfl
        apply OL.nil
        exact At.joinedx () trivial (by rw [show decide (op = 11) = true by simp [o11]]; exact Sub.au) (fun w' hw' => hw')
    rintro - -
    refine W.cond rfl (fun _ => ?_) (fun hb => by cases hb)
    apply W.seq
    apply W.regd0; decide +kernel; kernel_rfl; decide +kernel; exact fun w hw => hw.drew
    apply qmv; rfl; rfl
    apply qop; rfl; apply Pev.nil_ptr; rfl; exact yes
    apply qfa; rfl; rfl; rfl
    apply qop; rfl; apply Pev.load_kept; rfl; exact yes; exact .head _; rfl; intro hcond; assumption; intro hcond; assumption; intro hcond; exact NotOwned.au
    apply qop; rfl; apply Pev.idx; rfl; exact yes; rfl; exact yes; rfl; rfl; intro hcond; (simp only [Bool.and_eq_true, Bool.or_eq_true, Bool.not_eq_true', decide_eq_true_eq, decide_eq_false_iff_not] at *; omega)
    apply qop; rfl; apply Pev.load_kept; rfl; exact yes; exact .head _; rfl; intro hcond; assumption; intro hcond; assumption; intro hcond; exact NotOwned.au
    apply qop; rfl; apply Pev.nil_ptr; rfl; exact yes
    apply qfa; rfl; rfl; rfl
    apply qop; rfl; apply Pev.load_kept; rfl; exact yes; exact .head _; rfl; intro hcond; assumption; intro hcond; assumption; intro hcond; exact NotOwned.au
    apply qbn; rfl; rfl; rfl; apply Bin.neq
    apply qmv; rfl; rfl
    apply qno; rfl; rfl; rfl; apply Pev.move; rfl; exact yes
    apply qno; rfl; rfl; rfl; apply Pev.nil_ptr; rfl; exact fun h => h
    apply qno; rfl; rfl; rfl; apply Pev.fld; rfl; exact fun h => h; rfl
    apply qno; rfl; rfl; rfl; apply Pev.load_kept; rfl; exact fun h => h; exact .head _; rfl; intro hcond; assumption; intro hcond; assumption; intro hcond; exact NotOwned.au
    apply qno; rfl; rfl; rfl; apply Pev.bin; rfl; exact fun h => h; rfl; exact yes; intro hcond; apply Bin.eql
    apply qno; rfl; rfl; rfl; apply Pev.move; rfl; exact fun h => h
    apply QL.op; exact Guard.cyes rfl rfl; rfl; rfl; apply Pev.move; rfl; exact yes
    apply QL.op; exact Guard.cyes rfl rfl; rfl; rfl; apply Pev.nil_ptr; rfl; exact fun h => h
    apply QL.op; exact Guard.cyes rfl rfl; rfl; rfl; apply Pev.fld; rfl; exact fun h => h; rfl
    apply QL.op; exact Guard.cyes rfl rfl; rfl; rfl; apply Pev.load_kept; rfl; exact fun h => h; exact .head _; rfl; intro hcond; assumption; intro hcond; assumption; intro hcond; exact NotOwned.au
    apply QL.op; exact Guard.cyes rfl rfl; rfl; rfl; apply Pev.idx; rfl; exact fun h => h; rfl; exact yes; rfl; rfl; intro hcond; (simp only [Bool.and_eq_true, Bool.or_eq_true, Bool.not_eq_true', decide_eq_true_eq, decide_eq_false_iff_not] at *; omega)
    apply QL.op; exact Guard.cyes rfl rfl; rfl; rfl; apply Pev.load_kept; rfl; exact fun h => h; exact .head _; rfl; intro hcond; assumption; intro hcond; assumption; intro hcond; exact NotOwned.au
    apply QL.op; exact Guard.cyes rfl rfl; rfl; rfl; apply Pev.nil_ptr; rfl; exact fun h => h
    apply QL.op; exact Guard.cyes rfl rfl; rfl; rfl; apply Pev.fld; rfl; exact fun h => h; rfl
    apply QL.op; exact Guard.cyes rfl rfl; rfl; rfl; apply Pev.load_kept; rfl; exact fun h => h; exact .head _; rfl; intro hcond; assumption; intro hcond; assumption; intro hcond; exact NotOwned.au
    apply QL.op; exact Guard.cyes rfl rfl; rfl; rfl; apply Pev.move; rfl; exact yes
    apply QL.op; exact Guard.cyes rfl rfl; rfl; rfl; apply Pev.nil_ptr; rfl; exact fun h => h
    apply QL.op; exact Guard.cyes rfl rfl; rfl; rfl; apply Pev.fld; rfl; exact fun h => h; rfl
    apply QL.op; exact Guard.cyes rfl rfl; rfl; rfl; apply Pev.load_kept; rfl; exact fun h => h; exact .head _; rfl; intro hcond; assumption; intro hcond; assumption; intro hcond; exact NotOwned.au
    (((first | (with_reducible apply OL.op) | (with_reducible apply QL.op)); (exact Guard.au); rfl; rfl); (exact Pev.call (v := .bool (decide (n ∈ k0.binds))) rfl (by exact Args.au) (fun _ w2 hw2 => (has_calls y0.b.1 y0.b.2 k0.binds n w2 (by omega) (hI0.at hw2 (by exact mau) (fun k hk => by exact NotOwned.au))).mono (fun e w3 h => ⟨h.1, hw2.ext h.2⟩))))
    apply QL.op; exact Guard.cyes rfl rfl; rfl; rfl; apply Pev.not; rfl; exact fun h => h
    apply qno; rfl; rfl; rfl; apply Pev.pick_and; rfl; exact fun h => h; rfl; exact fun h => h
    apply qop; rfl; apply Pev.pick_or; rfl; exact yes; rfl; exact fun h => h
    apply QL.nil
    with_reducible apply At.next
    refine W.cond rfl (fun hc => ?_) (fun hc => ?_)
    · have hcc : ¬ (k0.op = 9 ∧ (op = 10 → n ∈ k0.binds)) := fun ⟨c1, c2⟩ => by
        rcases o1 with o | o
        · simp [c1, o, c2 o] at hc
        · simp [c1, o] at hc
      rw [if_neg hcc] at hpr
      apply W.sr
      apply oas; rfl; rfl
      apply OL.nx
      refine W.rt ?_
      ((with_reducible apply At.fin1); rfl; rfl; intro w' hw')
      exact ⟨by rw [hpr], by (exact hw'.fr)⟩
    · have hcc : k0.op = 9 ∧ (op = 10 → n ∈ k0.binds) := by
        by_cases c1 : k0.op = 9
        · refine ⟨c1, fun o => ?_⟩
          simp [c1, o] at hc
          exact hc
        · simp [c1] at hc
      rw [if_pos hcc] at hpr
      apply W.skip
      with_reducible apply At.in_normal
      with_reducible apply At.next
      apply W.sr
      apply oas; rfl; rfl
      apply OL.nx
      apply W.ret
      ((with_reducible apply At.fin1); rfl; rfl; intro w' hw')
      exact ⟨by rw [hpr], by (exact hw'.fr)⟩
  · have hpr : ownS op n ks alts = if op = 12 then 6 else if op = 13 then 63 else 0 := by unfold ownS; rw [if_neg o17, if_neg o8, if_neg o3, if_neg o7, if_neg o1]
    apply W.seq
    apply W.sr
    apply obn; rfl; rfl; rfl; apply Bin.eql
    apply oas; rfl; rfl
    apply OL.nx
    refine W.cond rfl (fun hb => by simp at hb; omega) (fun _ => ?_)
    apply W.reg
    apply obn; rfl; rfl; rfl; apply Bin.eql
    apply oas; rfl; rfl
    apply OL.nx
    refine W.cond rfl (fun hb => by simp at hb; omega) (fun _ => ?_)
    apply W.sr
    apply obn; rfl; rfl; rfl; apply Bin.eql
    apply oas; rfl; rfl
    apply OL.nx
    (refine W.cnd (fun o12 => ?_) (fun o12 => ?_)) <;> (try (exfalso; first | omega | exact o12 trivial | contradiction))
    · rw [if_pos o12] at hpr
      apply W.sr
      apply oas; rfl; rfl
      apply OL.nx
      refine W.rt ?_
      ((with_reducible apply At.fin1); rfl; rfl; intro w' hw')
      exact ⟨by rw [hpr], by (exact hw'.fr)⟩
    rw [if_neg o12] at hpr
    apply W.sr
    apply obn; rfl; rfl; rfl; apply Bin.eql
    apply oas; rfl; rfl
    apply OL.nx
    (refine W.cnd (fun o13 => ?_) (fun o13 => ?_)) <;> (try (exfalso; first | omega | exact o13 trivial | contradiction))
    · rw [if_pos o13] at hpr
      apply W.sr
      apply oas; rfl; rfl
      apply OL.nx
      refine W.rt ?_
      ((with_reducible apply At.fin1); rfl; rfl; intro w' hw')
      exact ⟨by rw [hpr], by (exact hw'.fr)⟩
    · rw [if_neg o13] at hpr
      apply W.skip
      with_reducible apply At.in_normal
      with_reducible apply At.next
      apply W.sr
      apply oas; rfl; rfl
      apply OL.nx
      apply W.ret
      ((with_reducible apply At.fin1); rfl; rfl; intro w' hw')
      exact ⟨by rw [hpr], by (exact hw'.fr)⟩
end Go.Proofs.YtlboppiogeaicaaDoor.co

/- Plain: what the reference's checks of a core expression's nodes compute, and that it is what core's own checks compute. No program in sight. No condition. -/
namespace Go.Co
set_option linter.unusedVariables false
set_option linter.unusedSimpArgs false
def kidsR (x : Ex) : Int × Bool :=
  if x.op = 0 ∨ x.op = 1 ∨ x.op = 17 then (0, true)
  else if x.op = 2 then (1, false)
  else if x.op = 4 then (2, false)
  else if x.op = 3 then (((max x.kids.length 1 : Nat) : Int), false)
  else if x.op = 5 then ((x.binds.length : Int) + 1, false)
  else if x.op = 7 ∨ x.op = 13 then ((x.alts.length : Int) + 1, false)
  else if x.op = 9 then ((x.binds.length : Int), false)
  else if x.op = 10 ∨ x.op = 12 ∨ x.op = 16 then (1, true)
  else if x.op = 11 then (2, true)
  else if x.op = 6 ∨ x.op = 14 ∨ x.op = 15 then ((x.kids.length : Int), true)
  else if x.op = 8 then (if x.n = 7 ∨ x.n = 9 then (1, true) else if x.n = 11 then (3, true) else if 0 ≤ x.n ∧ x.n < 11 then (2, true) else (-1, false))
  else (-1, false)
def altR1 (x : Ex) (i : Nat) (a : Al) : Bool :=
  !((x.alts.take i).any fun b => decide (b.tag = a.tag)) && !decide (a.tag < -1) && !(decide (x.op = 7) && decide (a.tag = -1) && (decide (i + 1 < x.alts.length) || !decide (a.binds.length = 0)))
    && !(decide (x.op = 13) && (decide (i = 0) && (!decide (a.tag = -1) || !decide (a.binds.length = 1)) || decide (0 < i) && (decide (a.tag < 0) || !decide (a.binds.length = 2))))
def altsR1 (x : Ex) : Bool := (List.range x.alts.length).all fun i => altR1 x i (x.alts.getD i ⟨0, []⟩)
def altsR (x : Ex) : Bool := if ¬ x.op = 7 ∧ ¬ x.op = 13 then decide (x.alts.length = 0) else altsR1 x && (decide (x.op = 7) || decide (0 < x.alts.length))
def bindsR (x : Ex) : Bool := if x.op = 2 ∨ x.op = 9 then true else if x.op = 4 then decide (x.binds.length = 1) else if x.op = 5 then decide (0 < x.binds.length) else decide (x.binds.length = 0)
def formR (x : Ex) : Bool := decide ((kidsR x).1 = (x.kids.length : Int)) && ((kidsR x).2 || decide (x.n = 0)) && altsR x && bindsR x
theorem altR1_eq (x : Ex) (i : Nat) (a : Al) : altR1 x i a = altOk x i a := by
  unfold altR1 altOk
  generalize (x.alts.take i).any (fun b => decide (b.tag = a.tag)) = c
  generalize x.alts.length = m
  generalize a.binds.length = b
  generalize a.tag = t
  generalize x.op = o
  rw [Bool.eq_iff_iff]
  simp only [Bool.and_eq_true, Bool.not_eq_true', Bool.or_eq_false_iff, Bool.and_eq_false_iff, decide_eq_true_eq, decide_eq_false_iff_not, Bool.not_eq_false', beq_eq_false_iff_ne, beq_iff_eq, Bool.not_eq_true, ne_eq, decide_eq_decide]
  constructor
  · rintro ⟨⟨⟨h1, h2⟩, h3⟩, h4⟩
    refine ⟨⟨⟨⟨h1, by omega⟩, by omega⟩, by omega⟩, by omega⟩
  · rintro ⟨⟨⟨⟨h1, h2⟩, h3⟩, h4⟩, h5⟩
    refine ⟨⟨⟨h1, by omega⟩, by omega⟩, ?_⟩
    by_cases h : o = 13
    · right
      have e4 : i = 0 ↔ t = -1 := by omega
      have e5 : b = min (i + 1) 2 := by omega
      omega
    · exact .inl h
theorem altsR_eq (x : Ex) (h : x.op = 7 ∨ x.op = 13) : altsR x = (altsOk x && (decide (x.op = 7) || decide (0 < x.alts.length))) := by
  unfold altsR altsR1 altsOk
  rw [if_neg (by omega)]
  congr 2
  funext i
  exact altR1_eq x i _
theorem formR_eq (x : Ex) : formR x = shapeB x := by
  unfold formR shapeB
  by_cases h : x.op = 7 ∨ x.op = 13
  · rw [if_pos h, altsR_eq x h]
    unfold altsB
    have hk : kidsR x = ((x.alts.length : Int) + 1, false) := by unfold kidsR; rcases h with h | h <;> simp [h]
    have hb : bindsR x = decide (x.binds.length = 0) := by unfold bindsR; rcases h with h | h <;> simp [h]
    rw [hk, hb]
    generalize altsOk x = a
    rw [Bool.eq_iff_iff]
    simp only [Bool.and_eq_true, decide_eq_true_eq, Bool.or_eq_true, Bool.false_eq_true, false_or]
    constructor
    · rintro ⟨⟨⟨h1, h2⟩, h3, h4⟩, h5⟩
      exact ⟨⟨⟨⟨h3, by omega⟩, h4⟩, h5⟩, h2⟩
    · rintro ⟨⟨⟨⟨h3, h1⟩, h4⟩, h5⟩, h2⟩
      exact ⟨⟨⟨by omega, h2⟩, h3, h4⟩, h5⟩
  · rw [if_neg h]
    have ha : altsR x = decide (x.alts.length = 0) := by unfold altsR; rw [if_pos (by omega)]
    rw [ha]
    unfold kidsR bindsR sh primN
    generalize x.alts.length = al
    generalize x.binds.length = bl
    generalize x.kids.length = kl
    generalize x.n = n
    generalize x.op = op at h ⊢
    rw [Bool.eq_iff_iff]
    by_cases e1 : op = 0 ∨ op = 1 ∨ op = 17
    · rcases e1 with e | e | e <;> simp [e] <;> omega
    by_cases e2 : op = 2
    · simp [e2]; first | done | omega
    by_cases e3 : op = 3
    · simp [e3]; first | done | omega
    by_cases e4 : op = 4
    · simp [e4]; first | done | omega
    by_cases e5 : op = 5
    · simp [e5]; first | done | omega
    by_cases e6 : op = 6 ∨ op = 14 ∨ op = 15
    · rcases e6 with e | e | e <;> simp [e] <;> omega
    by_cases e7 : op = 9
    · simp [e7]; first | done | omega
    by_cases e8 : op = 10 ∨ op = 12 ∨ op = 16
    · rcases e8 with e | e | e <;> simp [e] <;> omega
    by_cases e9 : op = 11
    · simp [e9]; first | done | omega
    by_cases e10 : op = 8
    · by_cases f1 : n = 7 ∨ n = 9
      · rcases f1 with f | f <;> simp [e10, f] <;> omega
      by_cases f2 : n = 11
      · simp [e10, f2]; first | done | omega
      by_cases f3 : 0 ≤ n ∧ n < 11
      · have f4 : 0 ≤ n ∧ n ≤ 11 := by omega
        simp [e10, f1, f2, f3, f4]; first | done | omega
      · have f4 : ¬ (0 ≤ n ∧ n ≤ 11) := by omega
        simp [e10, f1, f2, f3, f4]; first | done | omega
    · simp [e1, e2, e3, e4, e5, e6, e7, e8, e9, e10, h]; first | done | omega
/-- the longest list of an alternative -/
def altW (l : List Al) : Nat := l.foldl (fun m a => max m a.binds.length) 0
/-- the reference's numbersError -/
def numE (x : Ex) : Int :=
  if rangesOk x = false then 4
  else if (x.op = 2 ∧ 6 < x.binds.length) ∨ (x.op = 3 ∧ 7 < x.kids.length) ∨ (x.op = 14 ∧ 6 < x.kids.length) ∨ ((x.op = 6 ∨ x.op = 15) ∧ 16 < x.kids.length) ∨ 16 < x.binds.length ∨ 16 < altW x.alts then 2 else 0
theorem foldl_max (l : List Al) : ∀ (m : Nat), l.foldl (fun m a => max m a.binds.length) m = max m (l.foldl (fun m a => max m a.binds.length) 0) := by
  induction l with
  | nil => intro m; simp
  | cons a r ih =>
    intro m
    rw [List.foldl_cons, List.foldl_cons, ih, ih (max 0 a.binds.length)]
    omega
theorem numE_eq {x : Ex} (h : shapeB x = true) : numE x = rangesE x := by
  unfold numE rangesE
  by_cases h1 : rangesOk x = false
  · rw [if_pos h1, if_pos h1]
  · rw [if_neg h1, if_neg h1]
    have hw : wide x = max x.binds.length (altW x.alts) := foldl_max _ _
    rw [hw]
    have h2 : x.op = 2 → altW x.alts = 0 := fun h2 => by
      unfold shapeB sh at h
      simp [h2] at h
      unfold altW
      rw [h.1.2]
      rfl
    obtain ⟨f, hf⟩ : ∃ f, f = altW x.alts := ⟨_, rfl⟩
    rw [← hf] at h2 ⊢
    have hm : ∀ k, k < max x.binds.length f ↔ k < x.binds.length ∨ k < f := fun k => by rw [Nat.max_def]; split <;> omega
    congr 1
    apply propext
    simp only [hm]
    by_cases e : x.op = 2
    · have := h2 e
      have e2 : (if x.op = 2 then 6 else 16) = 6 := if_pos e
      simp only [e2]
      omega
    · have e2 : (if x.op = 2 then 6 else 16) = 16 := if_neg e
      simp only [e2]
      omega
/-- the reference's check of a node -/
def oneR (e : List Ex) (flat : Bool) (x : Ex) : Int :=
  if (!flatBad flat x.op && formR x) = false then 3 else if ¬ numE x = 0 then numE x else if kidsB e x = false then 3 else 0
theorem oneR_eq (e : List Ex) (flat : Bool) (x : Ex) : oneR e flat x = if flatBad flat x.op then 3 else nodeE e x := by
  unfold oneR nodeE
  cases hb : flatBad flat x.op
  · rw [formR_eq]
    simp only [Bool.not_false, Bool.true_and, Bool.false_eq_true, if_false]
    by_cases hs : shapeB x = false
    · rw [if_pos hs, if_pos hs]
    · rw [if_neg hs, if_neg hs, numE_eq (by simpa using hs)]
  · simp
end Go.Co

/- The walks of the reference's inside, kidsOf, goodAlts, goodForm, goodKids. Conditions: none. (Printed by cra.py.) -/
namespace Go.Proofs.YtlboppiogeaicaaDoor.co
open Go.RowKit Go.Eng Go.Co
set_option linter.unusedVariables false
set_option linter.unusedSimpArgs false
set_option maxRecDepth 100000
theorem inside_calls (n lo hi : Int) (w : World) : Calls Tryd.prog 106 [.int .i64 n, .int .i64 lo, .int .i64 hi].toArray w fun e w' => e = .returned (.bool (decide (lo ≤ n) && decide (n ≤ hi))) ∧ Ext w w' := by
  refine enter Tryd.func106 rfl Tryd.ntmps106 rfl (Cls.start w) ?_
  (simp only [argEnv, Nat.zero_add, Nat.reduceAdd])
  apply W.sr
  apply oas; rfl; rfl
  apply OL.nsr
  apply omv; rfl; rfl
  apply omv; rfl; rfl
  apply obn; rfl; rfl; rfl; apply Bin.geq
  apply omv; rfl; rfl
  apply oy; rfl; rfl; rfl; apply Pev.move; rfl; exact yes
  apply oy; rfl; rfl; rfl; apply Pev.move; rfl; exact yes
  apply oy; rfl; rfl; rfl; apply Pev.bin; rfl; exact fun h => h; rfl; exact fun h => h; intro hcond; apply Bin.leq
  apply oop; rfl; apply Pev.pick_and; rfl; exact yes; rfl; exact fun h => h
  apply oas; rfl; rfl
  apply OL.nx
  apply W.ret
  ((with_reducible apply At.fin1); rfl; rfl; intro w' hw')
  exact ⟨by simp, by (exact hw'.fr)⟩
theorem kidsOf_calls (x : Ex) (y : ExY) (w : World) (h : ExOk w (low w) x y) :
    Calls Tryd.prog 104 [.agg (exC x y).toArray].toArray w fun e w' => e = .returned (.tuple #[.int .i64 (kidsR x).1, .bool (kidsR x).2]) ∧ Ext w w' := by
  have hal := h.al
  have hkl := h.kl
  have hbl := h.bl
  refine enter Tryd.func104 rfl Tryd.ntmps104 rfl (Cls.start w) ?_
  (simp only [argEnv, Nat.zero_add, Nat.reduceAdd])
  simp only [exC]
  apply W.sr
  apply OL.box; rfl; rfl; exact CellsL.agg; (intro bk hbk; simp only [AllLe, and_true] at hbk)
  apply oas; rfl; rfl
  apply oas; rfl; rfl
  apply OL.nx
  apply W.seq
  apply W.sr
  apply ofa; rfl; rfl; rfl
  apply old; rfl; rfl; exact .head _; rfl; rfl
  apply OL.nx
  refine W.joinx (G := Unit) (fun _ => kidsR x = (-1, false)) (fun _ => []) (fun _ => Cls [blk bk 28 [.int .i64 x.op, .int .i64 x.n, .slice y.b.1 x.binds.length y.b.2, .slice y.k.1 x.kids.length y.k.2, .slice y.a.1 x.alts.length y.a.2]] [w]) ?_ ?_
  · skip
    apply W.block
    apply W.seq
    apply W.sr
    apply obn; rfl; rfl; rfl; apply Bin.eql
    apply oas; rfl; rfl
    apply OL.nx
    (refine W.cnd (fun k1 => ?_) (fun k1 => ?_)) <;> (try (exfalso; first | omega | exact k1 trivial | contradiction))
    · apply W.sk
      (refine W.cnd (fun kb1 => ?_) (fun kb1 => ?_)) <;> (try (exfalso; first | omega | exact kb1 trivial | contradiction))
      apply W.sr
      apply oas; rfl; rfl
      apply oas; rfl; rfl
      apply OL.nx
      refine W.rt ?_
      ((with_reducible apply At.fin2); rfl; rfl; rfl; intro w' hw')
      have hk : kidsR x = (0, true) := by unfold kidsR; grind
      exact ⟨by rw [hk], by (exact hw'.fr)⟩
    apply W.sr
    apply obn; rfl; rfl; rfl; apply Bin.eql
    apply oas; rfl; rfl
    apply OL.nx
    (refine W.cnd (fun k2 => ?_) (fun k2 => ?_)) <;> (try (exfalso; first | omega | exact k2 trivial | contradiction))
    · apply W.sk
      (refine W.cnd (fun kb2 => ?_) (fun kb2 => ?_)) <;> (try (exfalso; first | omega | exact kb2 trivial | contradiction))
      apply W.sr
      apply oas; rfl; rfl
      apply oas; rfl; rfl
      apply OL.nx
      refine W.rt ?_
      ((with_reducible apply At.fin2); rfl; rfl; rfl; intro w' hw')
      have hk : kidsR x = (0, true) := by unfold kidsR; grind
      exact ⟨by rw [hk], by (exact hw'.fr)⟩
    apply W.reg
    apply obn; rfl; rfl; rfl; apply Bin.eql
    apply oas; rfl; rfl
    apply OL.nx
    (refine W.cnd (fun k3 => ?_) (fun k3 => ?_)) <;> (try (exfalso; first | omega | exact k3 trivial | contradiction))
    · apply W.sr
      apply oas; rfl; rfl
      apply oas; rfl; rfl
      apply OL.nx
      refine W.rt ?_
      ((with_reducible apply At.fin2); rfl; rfl; rfl; intro w' hw')
      have hk : kidsR x = (0, true) := by unfold kidsR; grind
      exact ⟨by rw [hk], by (exact hw'.fr)⟩
    apply W.sr
    apply obn; rfl; rfl; rfl; apply Bin.eql
    apply oas; rfl; rfl
    apply OL.nx
    (refine W.cnd (fun k4 => ?_) (fun k4 => ?_)) <;> (try (exfalso; first | omega | exact k4 trivial | contradiction))
    · apply W.sr
      apply oas; rfl; rfl
      apply oas; rfl; rfl
      apply OL.nx
      refine W.rt ?_
      ((with_reducible apply At.fin2); rfl; rfl; rfl; intro w' hw')
      have hk : kidsR x = (1, false) := by unfold kidsR; grind
      exact ⟨by rw [hk], by (exact hw'.fr)⟩
    apply W.sr
    apply obn; rfl; rfl; rfl; apply Bin.eql
    apply oas; rfl; rfl
    apply OL.nx
    (refine W.cnd (fun k5 => ?_) (fun k5 => ?_)) <;> (try (exfalso; first | omega | exact k5 trivial | contradiction))
    · apply W.sr
      apply oas; rfl; rfl
      apply oas; rfl; rfl
      apply OL.nx
      refine W.rt ?_
      ((with_reducible apply At.fin2); rfl; rfl; rfl; intro w' hw')
      have hk : kidsR x = (2, false) := by unfold kidsR; grind
      exact ⟨by rw [hk], by (exact hw'.fr)⟩
    apply W.sr
    apply obn; rfl; rfl; rfl; apply Bin.eql
    apply oas; rfl; rfl
    apply OL.nx
    (refine W.cnd (fun k6 => ?_) (fun k6 => ?_)) <;> (try (exfalso; first | omega | exact k6 trivial | contradiction))
    · apply W.sr
      apply ofa; rfl; rfl; rfl
      apply old; rfl; rfl; exact .head _; rfl; rfl
      apply oop; rfl; apply Pev.len_slice; rfl; exact yes; rfl
      apply oop; rfl; apply Pev.max2; rfl; exact yes; rfl; exact yes
      apply oas; rfl; rfl
      apply oas; rfl; rfl
      apply OL.nx
      refine W.rt ?_
      have em : (if (1 : Int) < (x.kids.length : Int) then (x.kids.length : Int) else 1) = ((max x.kids.length 1 : Nat) : Int) := by rw [Nat.max_def]; split <;> split <;> omega
      have em2 : (if (x.kids.length : Int) < (1 : Int) then (1 : Int) else (x.kids.length : Int)) = ((max x.kids.length 1 : Nat) : Int) := by rw [Nat.max_def]; split <;> split <;> omega
      first | rw [em] | rw [em2]
      skip
      ((with_reducible apply At.fin2); rfl; rfl; rfl; intro w' hw')
      have hk : kidsR x = (((max x.kids.length 1 : Nat) : Int), false) := by unfold kidsR; grind
      exact ⟨by rw [hk], by (exact hw'.fr)⟩
    apply W.sr
    apply obn; rfl; rfl; rfl; apply Bin.eql
    apply oas; rfl; rfl
    apply OL.nx
    (refine W.cnd (fun k7 => ?_) (fun k7 => ?_)) <;> (try (exfalso; first | omega | exact k7 trivial | contradiction))
    · apply W.sr
      apply ofa; rfl; rfl; rfl
      apply old; rfl; rfl; exact .head _; rfl; rfl
      apply oop; rfl; apply Pev.len_slice; rfl; exact yes; rfl
      apply obn; rfl; rfl; rfl; apply Bin.add_in; omega
      apply oas; rfl; rfl
      apply oas; rfl; rfl
      apply OL.nx
      refine W.rt ?_
      ((with_reducible apply At.fin2); rfl; rfl; rfl; intro w' hw')
      have hk : kidsR x = ((x.binds.length : Int) + 1, false) := by unfold kidsR; grind
      exact ⟨by rw [hk], by (exact hw'.fr)⟩
    apply W.seq
    apply W.sr
    apply obn; rfl; rfl; rfl; apply Bin.eql
    apply oas; rfl; rfl
    apply OL.nx
    (refine W.cnd (fun k8 => ?_) (fun k8 => ?_)) <;> (try (exfalso; first | omega | exact k8 trivial | contradiction))
    · apply W.sk
      (refine W.cnd (fun kb8 => ?_) (fun kb8 => ?_)) <;> (try (exfalso; first | omega | exact kb8 trivial | contradiction))
      apply W.sr
      apply ofa; rfl; rfl; rfl
      apply old; rfl; rfl; exact .head _; rfl; rfl
      apply oop; rfl; apply Pev.len_slice; rfl; exact yes; rfl
      apply obn; rfl; rfl; rfl; apply Bin.add_in; omega
      apply oas; rfl; rfl
      apply oas; rfl; rfl
      apply OL.nx
      refine W.rt ?_
      ((with_reducible apply At.fin2); rfl; rfl; rfl; intro w' hw')
      have hk : kidsR x = ((x.alts.length : Int) + 1, false) := by unfold kidsR; grind
      exact ⟨by rw [hk], by (exact hw'.fr)⟩
    apply W.reg
    apply obn; rfl; rfl; rfl; apply Bin.eql
    apply oas; rfl; rfl
    apply OL.nx
    (refine W.cnd (fun k9 => ?_) (fun k9 => ?_)) <;> (try (exfalso; first | omega | exact k9 trivial | contradiction))
    · apply W.sr
      apply ofa; rfl; rfl; rfl
      apply old; rfl; rfl; exact .head _; rfl; rfl
      apply oop; rfl; apply Pev.len_slice; rfl; exact yes; rfl
      apply obn; rfl; rfl; rfl; apply Bin.add_in; omega
      apply oas; rfl; rfl
      apply oas; rfl; rfl
      apply OL.nx
      refine W.rt ?_
      ((with_reducible apply At.fin2); rfl; rfl; rfl; intro w' hw')
      have hk : kidsR x = ((x.alts.length : Int) + 1, false) := by unfold kidsR; grind
      exact ⟨by rw [hk], by (exact hw'.fr)⟩
    apply W.sr
    apply obn; rfl; rfl; rfl; apply Bin.eql
    apply oas; rfl; rfl
    apply OL.nx
    (refine W.cnd (fun k10 => ?_) (fun k10 => ?_)) <;> (try (exfalso; first | omega | exact k10 trivial | contradiction))
    · apply W.sr
      apply ofa; rfl; rfl; rfl
      apply old; rfl; rfl; exact .head _; rfl; rfl
      apply oop; rfl; apply Pev.len_slice; rfl; exact yes; rfl
      apply oas; rfl; rfl
      apply oas; rfl; rfl
      apply OL.nx
      refine W.rt ?_
      ((with_reducible apply At.fin2); rfl; rfl; rfl; intro w' hw')
      have hk : kidsR x = ((x.binds.length : Int), false) := by unfold kidsR; grind
      exact ⟨by rw [hk], by (exact hw'.fr)⟩
    apply W.seq
    apply W.sr
    apply obn; rfl; rfl; rfl; apply Bin.eql
    apply oas; rfl; rfl
    apply OL.nx
    (refine W.cnd (fun k11 => ?_) (fun k11 => ?_)) <;> (try (exfalso; first | omega | exact k11 trivial | contradiction))
    · apply W.sk
      (refine W.cnd (fun kb11 => ?_) (fun kb11 => ?_)) <;> (try (exfalso; first | omega | exact kb11 trivial | contradiction))
      apply W.sr
      apply oas; rfl; rfl
      apply oas; rfl; rfl
      apply OL.nx
      refine W.rt ?_
      ((with_reducible apply At.fin2); rfl; rfl; rfl; intro w' hw')
      have hk : kidsR x = (1, true) := by unfold kidsR; grind
      exact ⟨by rw [hk], by (exact hw'.fr)⟩
    apply W.sr
    apply obn; rfl; rfl; rfl; apply Bin.eql
    apply oas; rfl; rfl
    apply OL.nx
    (refine W.cnd (fun k12 => ?_) (fun k12 => ?_)) <;> (try (exfalso; first | omega | exact k12 trivial | contradiction))
    · apply W.sk
      (refine W.cnd (fun kb12 => ?_) (fun kb12 => ?_)) <;> (try (exfalso; first | omega | exact kb12 trivial | contradiction))
      apply W.sr
      apply oas; rfl; rfl
      apply oas; rfl; rfl
      apply OL.nx
      refine W.rt ?_
      ((with_reducible apply At.fin2); rfl; rfl; rfl; intro w' hw')
      have hk : kidsR x = (1, true) := by unfold kidsR; grind
      exact ⟨by rw [hk], by (exact hw'.fr)⟩
    apply W.reg
    apply obn; rfl; rfl; rfl; apply Bin.eql
    apply oas; rfl; rfl
    apply OL.nx
    (refine W.cnd (fun k13 => ?_) (fun k13 => ?_)) <;> (try (exfalso; first | omega | exact k13 trivial | contradiction))
    · apply W.sr
      apply oas; rfl; rfl
      apply oas; rfl; rfl
      apply OL.nx
      refine W.rt ?_
      ((with_reducible apply At.fin2); rfl; rfl; rfl; intro w' hw')
      have hk : kidsR x = (1, true) := by unfold kidsR; grind
      exact ⟨by rw [hk], by (exact hw'.fr)⟩
    apply W.sr
    apply obn; rfl; rfl; rfl; apply Bin.eql
    apply oas; rfl; rfl
    apply OL.nx
    (refine W.cnd (fun k14 => ?_) (fun k14 => ?_)) <;> (try (exfalso; first | omega | exact k14 trivial | contradiction))
    · apply W.sr
      apply oas; rfl; rfl
      apply oas; rfl; rfl
      apply OL.nx
      refine W.rt ?_
      ((with_reducible apply At.fin2); rfl; rfl; rfl; intro w' hw')
      have hk : kidsR x = (2, true) := by unfold kidsR; grind
      exact ⟨by rw [hk], by (exact hw'.fr)⟩
    apply W.seq
    apply W.sr
    apply obn; rfl; rfl; rfl; apply Bin.eql
    apply oas; rfl; rfl
    apply OL.nx
    (refine W.cnd (fun k15 => ?_) (fun k15 => ?_)) <;> (try (exfalso; first | omega | exact k15 trivial | contradiction))
    · apply W.sk
      (refine W.cnd (fun kb15 => ?_) (fun kb15 => ?_)) <;> (try (exfalso; first | omega | exact kb15 trivial | contradiction))
      apply W.sr
      apply ofa; rfl; rfl; rfl
      apply old; rfl; rfl; exact .head _; rfl; rfl
      apply oop; rfl; apply Pev.len_slice; rfl; exact yes; rfl
      apply oas; rfl; rfl
      apply oas; rfl; rfl
      apply OL.nx
      refine W.rt ?_
      ((with_reducible apply At.fin2); rfl; rfl; rfl; intro w' hw')
      have hk : kidsR x = ((x.kids.length : Int), true) := by unfold kidsR; grind
      exact ⟨by rw [hk], by (exact hw'.fr)⟩
    apply W.sr
    apply obn; rfl; rfl; rfl; apply Bin.eql
    apply oas; rfl; rfl
    apply OL.nx
    (refine W.cnd (fun k16 => ?_) (fun k16 => ?_)) <;> (try (exfalso; first | omega | exact k16 trivial | contradiction))
    · apply W.sk
      (refine W.cnd (fun kb16 => ?_) (fun kb16 => ?_)) <;> (try (exfalso; first | omega | exact kb16 trivial | contradiction))
      apply W.sr
      apply ofa; rfl; rfl; rfl
      apply old; rfl; rfl; exact .head _; rfl; rfl
      apply oop; rfl; apply Pev.len_slice; rfl; exact yes; rfl
      apply oas; rfl; rfl
      apply oas; rfl; rfl
      apply OL.nx
      refine W.rt ?_
      ((with_reducible apply At.fin2); rfl; rfl; rfl; intro w' hw')
      have hk : kidsR x = ((x.kids.length : Int), true) := by unfold kidsR; grind
      exact ⟨by rw [hk], by (exact hw'.fr)⟩
    apply W.reg
    apply obn; rfl; rfl; rfl; apply Bin.eql
    apply oas; rfl; rfl
    apply OL.nx
    (refine W.cnd (fun k17 => ?_) (fun k17 => ?_)) <;> (try (exfalso; first | omega | exact k17 trivial | contradiction))
    · apply W.sr
      apply ofa; rfl; rfl; rfl
      apply old; rfl; rfl; exact .head _; rfl; rfl
      apply oop; rfl; apply Pev.len_slice; rfl; exact yes; rfl
      apply oas; rfl; rfl
      apply oas; rfl; rfl
      apply OL.nx
      refine W.rt ?_
      ((with_reducible apply At.fin2); rfl; rfl; rfl; intro w' hw')
      have hk : kidsR x = ((x.kids.length : Int), true) := by unfold kidsR; grind
      exact ⟨by rw [hk], by (exact hw'.fr)⟩
    apply W.sr
    apply obn; rfl; rfl; rfl; apply Bin.eql
    apply oas; rfl; rfl
    apply OL.nx
    (refine W.cnd (fun k18 => ?_) (fun k18 => ?_)) <;> (try (exfalso; first | omega | exact k18 trivial | contradiction))
    · apply W.seq
      apply W.sr
      apply ofa; rfl; rfl; rfl
      apply old; rfl; rfl; exact .head _; rfl; rfl
      apply obn; rfl; rfl; rfl; apply Bin.eql
      apply omv; rfl; rfl
      apply ono; rfl; rfl; rfl; apply Pev.fld; rfl; exact yes; rfl
      apply ono; rfl; rfl; rfl; apply Pev.load_blk; rfl; exact fun h => h; exact .head _; rfl; rfl
      apply ono; rfl; rfl; rfl; apply Pev.bin; rfl; exact fun h => h; rfl; exact yes; intro hcond; apply Bin.eql
      apply oop; rfl; apply Pev.pick_or; rfl; exact yes; rfl; exact fun h => h
      apply OL.nx
      (refine W.cnd (fun p1 => ?_) (fun p1 => ?_)) <;> (try (exfalso; first | omega | exact p1 trivial | contradiction))
      · apply W.sr
        apply oas; rfl; rfl
        apply oas; rfl; rfl
        apply OL.nx
        refine W.rt ?_
        ((with_reducible apply At.fin2); rfl; rfl; rfl; intro w' hw')
        have hk : kidsR x = (1, true) := by unfold kidsR; grind
        exact ⟨by rw [hk], by (exact hw'.fr)⟩
      apply W.sk
      apply W.seq
      apply W.sr
      apply ofa; rfl; rfl; rfl
      apply old; rfl; rfl; exact .head _; rfl; rfl
      apply obn; rfl; rfl; rfl; apply Bin.eql
      apply OL.nx
      (refine W.cnd (fun p2 => ?_) (fun p2 => ?_)) <;> (try (exfalso; first | omega | exact p2 trivial | contradiction))
      · apply W.sr
        apply oas; rfl; rfl
        apply oas; rfl; rfl
        apply OL.nx
        refine W.rt ?_
        ((with_reducible apply At.fin2); rfl; rfl; rfl; intro w' hw')
        have hk : kidsR x = (3, true) := by unfold kidsR; grind
        exact ⟨by rw [hk], by (exact hw'.fr)⟩
      apply W.sk
      apply W.sr
      apply ofa; rfl; rfl; rfl
      apply old; rfl; rfl; exact .head _; rfl; rfl
      apply obn; rfl; rfl; rfl; apply Bin.geq
      apply omv; rfl; rfl
      apply oy; rfl; rfl; rfl; apply Pev.fld; rfl; exact yes; rfl
      apply oy; rfl; rfl; rfl; apply Pev.load_blk; rfl; exact fun h => h; exact .head _; rfl; rfl
      apply oy; rfl; rfl; rfl; apply Pev.bin; rfl; exact fun h => h; rfl; exact yes; intro hcond; apply Bin.lss
      apply oop; rfl; apply Pev.pick_and; rfl; exact yes; rfl; exact fun h => h
      apply OL.nx
      (refine W.cnd (fun p3 => ?_) (fun p3 => ?_)) <;> (try (exfalso; first | omega | exact p3 trivial | contradiction))
      · apply W.sr
        apply oas; rfl; rfl
        apply oas; rfl; rfl
        apply OL.nx
        refine W.rt ?_
        ((with_reducible apply At.fin2); rfl; rfl; rfl; intro w' hw')
        have hk : kidsR x = (2, true) := by unfold kidsR; grind
        exact ⟨by rw [hk], by (exact hw'.fr)⟩
      apply W.skip
      with_reducible apply At.in_normal
      exact At.joinedx () (by unfold kidsR; grind) (by exact Sub.au) (fun w' hw' => hw')
    apply W.skip
    with_reducible apply At.in_normal
    exact At.joinedx () (by unfold kidsR; grind) (by exact Sub.au) (fun w' hw' => hw')
  · rintro - hk
    apply W.sr
    apply oas; rfl; rfl
    apply oas; rfl; rfl
    apply OL.nx
    apply W.ret
    ((with_reducible apply At.fin2); rfl; rfl; rfl; intro w' hw')
    exact ⟨by rw [hk], by (exact hw'.fr)⟩
theorem any_take_succ {l : List Al} {k : Nat} {a : Al} {f : Al → Bool} (h : l[k]? = some a) : (l.take (k + 1)).any f = ((l.take k).any f || f a) := by
  rw [List.take_add_one, h]
  simp
theorem any_take_true {l : List Al} {i k : Nat} {a : Al} {f : Al → Bool} (h : l[k]? = some a) (hk : k < i) (hf : f a = true) : (l.take i).any f = true := by
  rw [List.any_eq_true]
  exact ⟨a, List.mem_of_getElem? (i := k) (by rw [List.getElem?_take_of_lt hk]; exact h), hf⟩
theorem goodAlts_calls (x : Ex) (y : ExY) (w : World) (h : ExOk w (low w) x y) :
    Calls Tryd.prog 105 [.agg (exC x y).toArray].toArray w fun e w' => e = .returned (.bool (altsR x)) ∧ Ext w w' := by
  obtain ⟨ps, hps, harr⟩ := h.alts
  have hpl : x.alts.length = ps.length := by rw [← hps, List.length_map]
  have hal := h.al
  have hac := h.ac
  refine enter Tryd.func105 rfl Tryd.ntmps105 rfl (Cls.start w) ?_
  (simp only [argEnv, Nat.zero_add, Nat.reduceAdd])
  simp only [exC]
  apply W.sr
  apply OL.box; rfl; rfl; exact CellsL.agg; (intro bk hbk; simp only [AllLe, and_true] at hbk)
  apply oas; rfl; rfl
  apply OL.nx
  apply W.seq
  apply W.sr
  apply ofa; rfl; rfl; rfl
  apply old; rfl; rfl; exact .head _; rfl; rfl
  apply obn; rfl; rfl; rfl; apply Bin.neq
  apply omv; rfl; rfl
  apply oy; rfl; rfl; rfl; apply Pev.fld; rfl; exact yes; rfl
  apply oy; rfl; rfl; rfl; apply Pev.load_blk; rfl; exact fun h => h; exact .head _; rfl; rfl
  apply oy; rfl; rfl; rfl; apply Pev.bin; rfl; exact fun h => h; rfl; exact yes; intro hcond; apply Bin.neq
  apply oop; rfl; apply Pev.pick_and; rfl; exact yes; rfl; exact fun h => h
  apply OL.nx
  revert bk
  intro bx hbx
  (refine W.cnd (fun hop => ?_) (fun hop => ?_)) <;> (try (exfalso; first | omega | exact hop trivial | contradiction))
  · apply W.sr
    apply ofa; rfl; rfl; rfl
    apply old; rfl; rfl; exact .head _; rfl; rfl
    apply oop; rfl; apply Pev.len_slice; rfl; exact yes; rfl
    apply obn; rfl; rfl; rfl; apply Bin.eql
    apply oas; rfl; rfl
    apply OL.nx
    refine W.rt ?_
    ((with_reducible apply At.fin1); rfl; rfl; intro w' hw')
    refine ⟨congrArg (fun b => Ending.returned (Value.bool b)) ?_, by (exact hw'.fr)⟩
    unfold altsR
    rw [if_pos (by simpa using hop)]
    simp
  have hop' : x.op = 7 ∨ x.op = 13 := by omega
  have hR : altsR x = (altsR1 x && (decide (x.op = 7) || decide (0 < x.alts.length))) := by
    unfold altsR
    rw [if_neg (by omega)]
  apply W.sk
  apply W.seq
  apply W.sr
  apply ofa; rfl; rfl; rfl
  apply old; rfl; rfl; exact .head _; rfl; rfl
  apply oop; rfl; apply Pev.len_slice; rfl; exact yes; rfl
  apply omv; rfl; rfl
  apply OL.nx
  apply W.block
  rw [hpl]
  refine W.loop (G := Nat) (fun i => i ≤ ps.length ∧ ∀ j, j < i → altR1 x j (x.alts.getD j ⟨0, []⟩) = true) (fun i => ps.length - i)
    (fun i => [(1, true, .pointer (some ⟨bx, 0, none⟩)), (19, true, .slice y.a.1 ps.length y.a.2), (20, true, .int .i64 (ps.length : Int)), (21, true, .int .i64 (i : Int))])
    (fun i => Cls [blk bx 28 [.int .i64 x.op, .int .i64 x.n, .slice y.b.1 x.binds.length y.b.2, .slice y.k.1 x.kids.length y.k.2, .slice y.a.1 ps.length y.a.2]] [w]) 0 ⟨by omega, fun j hj => by omega⟩ (by exact Sub.au) (fun w' hw' => by first | exact hw' | (rw [hpl] at hw'; exact hw')) ?_
  rintro i ⟨hi, hall⟩
  apply W.sr
  apply obn; rfl; rfl; rfl; apply Bin.lss
  apply OL.nx
  apply W.seq
  (refine W.cnd (fun hlt => ?_) (fun hlt => ?_)) <;> (try (exfalso; first | omega | exact hlt trivial | contradiction))
  · have hil : i < ps.length := by omega
    obtain ⟨a, u, hq, hab, hu, hcell, hok⟩ := harr.get hil
    have hab : a.block < w.heap.size := hab
    have hcell : CellsAt w (a.add (i * 2)) [.int .i64 u.1.tag, .slice u.2.1 u.1.binds.length u.2.2] := hcell
    have hu1 : x.alts[i]? = some u.1 := by rw [← hps, List.getElem?_map, hu]; rfl
    have hu2 : x.alts.getD i ⟨0, []⟩ = u.1 := by simp [List.getD, hu1]
    have hbl := hok.2.1
    have hbad : altR1 x i u.1 = false → altsR x = false := fun hf => by
      rw [hR]
      unfold altsR1
      rw [not_all_range (i := i) (by omega) (by rw [hu2]; exact hf)]
      rfl
    have hoki : altR1 x i u.1 = (!((x.alts.take i).any fun b => decide (b.tag = u.1.tag)) && !decide (u.1.tag < -1) && !(decide (x.op = 7) && decide (u.1.tag = -1) && (decide (i + 1 < x.alts.length) || !decide (u.1.binds.length = 0)))
      && !(decide (x.op = 13) && (decide (i = 0) && (!decide (u.1.tag = -1) || !decide (u.1.binds.length = 1)) || decide (0 < i) && (decide (u.1.tag < 0) || !decide (u.1.binds.length = 2))))) := rfl
    rw [hq]
    apply W.sk
    apply W.sb
    apply W.sr
    apply omv; rfl; rfl
    apply oop; rfl; apply Pev.idx; rfl; exact yes; rfl; exact yes; rfl; rfl; intro hcond; omega
    apply oop; rfl; apply Pev.load_keptA; rfl; exact yes; exact .head _; rfl; intro hcond; assumption; rfl; intro hcond; (rw [add_block]; assumption); intro hcond; exact NotOwned.au
    apply OL.alloc; rfl; rfl; exact CellsL.agg; (intro bk hbk; simp only [AllLe, and_true] at hbk)
    apply oas; rfl; rfl
    apply OL.storeB; rfl; rfl; exact CellsL.agg; rfl; rfl; rfl; exact Swap.au; exact Put.au
    apply OL.nx
    apply W.seq
    apply W.sr
    apply omv; rfl; rfl
    apply omv; rfl; rfl
    apply OL.nx
    apply W.block
    revert bk
    intro ba hba
    refine W.loop (G := Nat) (fun k => k ≤ i ∧ (x.alts.take k).any (fun b => decide (b.tag = u.1.tag)) = false) (fun k => i - k)
      (fun k => [(1, true, .pointer (some ⟨bx, 0, none⟩)), (3, true, .int .i64 (i : Int)), (4, true, .pointer (some ⟨ba, 0, none⟩)), (19, true, .slice (some a) ps.length y.a.2), (20, true, .int .i64 (ps.length : Int)), (21, true, .int .i64 (i : Int)), (26, true, .int .i64 (i : Int)), (27, true, .int .i64 (k : Int))])
      (fun k => Cls [blk ba 132 [.int .i64 u.1.tag, .slice u.2.1 u.1.binds.length u.2.2], blk bx 28 [.int .i64 x.op, .int .i64 x.n, .slice y.b.1 x.binds.length y.b.2, .slice y.k.1 x.kids.length y.k.2, .slice (some a) ps.length y.a.2]] [w]) 0 ⟨by omega, rfl⟩ (by exact Sub.au) (fun w' hw' => by first | exact hw' | (rw [hq] at hw'; exact hw')) ?_
    rintro k ⟨hk, hany⟩
    apply W.sr
    apply obn; rfl; rfl; rfl; apply Bin.lss
    apply OL.nx
    apply W.seq
    (refine W.cnd (fun hlt2 => ?_) (fun hlt2 => ?_)) <;> (try (exfalso; first | omega | exact hlt2 trivial | contradiction))
    · have hki : k < i := by omega
      obtain ⟨a2, v, hq2, hab2, hv, hcell2, hok2⟩ := harr.get (i := k) (by omega)
      have hab2 : a2.block < w.heap.size := hab2
      obtain rfl : a = a2 := by rw [hq] at hq2; exact Option.some.inj hq2
      have hcell2 : CellsAt w (a.add (k * 2)) [.int .i64 v.1.tag, .slice v.2.1 v.1.binds.length v.2.2] := hcell2
      have hv1 : x.alts[k]? = some v.1 := by rw [← hps, List.getElem?_map, hv]; rfl
      apply W.sk
      apply W.sb
      apply W.sr
      apply omv; rfl; rfl
      apply oas; rfl; rfl
      apply OL.nx
      apply W.seq
      apply W.regd0; decide +kernel; kernel_rfl; decide +kernel; exact fun w hw => hw.drew
      apply qfa; rfl; rfl; rfl
      apply qld; rfl; rfl; exact .tail _ (.head _); rfl; rfl
      apply qmv; rfl; rfl
      apply qop; rfl; apply Pev.idx; rfl; exact yes; rfl; exact yes; rfl; rfl; intro hcond; omega
      apply qop; rfl; apply Pev.fldA; rfl; exact yes; rfl
      apply qop; rfl; apply Pev.load_kept; rfl; exact yes; exact .head _; rfl; intro hcond; apply CellsAt.at_ (by assumption) rfl; intro hcond; (simp only [add_block]; assumption); intro hcond; exact NotOwned.au
      apply qfa; rfl; rfl; rfl
      apply qld; rfl; rfl; exact .head _; rfl; rfl
      apply qbn; rfl; rfl; rfl; apply Bin.eql
      apply QL.nil
      with_reducible apply At.next
      (refine W.cnd (fun heq => ?_) (fun heq => ?_)) <;> (try (exfalso; first | omega | exact heq trivial | contradiction))
      · apply W.sr
        apply oas; rfl; rfl
        apply OL.nx
        refine W.rt ?_
        ((with_reducible apply At.fin1); rfl; rfl; intro w' hw')
        refine ⟨by rw [hbad (by rw [hoki, any_take_true hv1 hki (by simpa using heq)]; rfl)], by (exact hw'.fr)⟩
      apply W.skip
      with_reducible apply At.in_normal
      with_reducible apply At.next
      apply W.reg
      apply obn; rfl; rfl; rfl; apply Bin.add_in; omega
      apply omv; rfl; rfl
      apply OL.nil
      refine At.again (k + 1) ⟨by omega, ?_⟩ (by omega) (by exact Sub.au) (fun w' hw' => hw')
      rw [any_take_succ hv1, hany]
      simpa using heq
    obtain rfl : k = i := by omega
    rw [hany] at hoki
    rw [hpl] at hoki
    clear hlt2 hk
    refine W.xt ?_
    with_reducible apply At.next
    apply W.seq
    apply W.sr
    apply ofa; rfl; rfl; rfl
    apply old; rfl; rfl; exact .head _; rfl; rfl
    apply obn; rfl; rfl; rfl; apply Bin.lss
    apply OL.nx
    refine W.cond rfl (fun hb => ?_) (fun hb => ?_)
    · apply W.sr
      apply oas; rfl; rfl
      apply OL.nx
      refine W.rt ?_
      ((with_reducible apply At.fin1); rfl; rfl; intro w' hw')
      refine ⟨by rw [hbad (by rw [hoki]; grind)], by (exact hw'.fr)⟩
    apply W.sk
    apply W.seq
    apply W.sr
    apply ofa; rfl; rfl; rfl
    apply old; rfl; rfl; exact .tail _ (.head _); rfl; rfl
    apply obn; rfl; rfl; rfl; apply Bin.eql
    apply omv; rfl; rfl
    apply oy; rfl; rfl; rfl; apply Pev.fld; rfl; exact yes; rfl
    apply oy; rfl; rfl; rfl; apply Pev.load_blk; rfl; exact fun h => h; exact .head _; rfl; rfl
    apply oy; rfl; rfl; rfl; apply Pev.bin; rfl; exact fun h => h; rfl; exact yes; intro hcond; apply Bin.eql
    apply oop; rfl; apply Pev.pick_and; rfl; exact yes; rfl; exact fun h => h
    apply omv; rfl; rfl
    apply oy; rfl; rfl; rfl; apply Pev.move; rfl; exact yes
    apply oy; rfl; rfl; rfl; apply Pev.bin; rfl; exact fun h => h; rfl; exact yes; intro hcond; apply Bin.add_in; omega
    apply oy; rfl; rfl; rfl; apply Pev.fld; rfl; exact yes; rfl
    apply oy; rfl; rfl; rfl; apply Pev.load_blk; rfl; exact fun h => h; exact .tail _ (.head _); rfl; rfl
    apply oy; rfl; rfl; rfl; apply Pev.len_slice; rfl; exact fun h => h; rfl
    apply oy; rfl; rfl; rfl; apply Pev.bin; rfl; exact fun h => h; rfl; exact fun h => h; intro hcond; apply Bin.lss
    apply oy; rfl; rfl; rfl; apply Pev.move; rfl; exact fun h => h
    apply OL.op; exact Guard.cno rfl rfl; rfl; rfl; apply Pev.fld; rfl; exact yes; rfl
    apply OL.op; exact Guard.cno rfl rfl; rfl; rfl; apply Pev.load_blk; rfl; exact fun h => h; exact .head _; rfl; rfl
    apply OL.op; exact Guard.cno rfl rfl; rfl; rfl; apply Pev.len_slice; rfl; exact fun h => h; rfl
    apply OL.op; exact Guard.cno rfl rfl; rfl; rfl; apply Pev.bin; rfl; exact fun h => h; rfl; exact yes; intro hcond; apply Bin.neq
    apply oy; rfl; rfl; rfl; apply Pev.pick_or; rfl; exact fun h => h; rfl; exact fun h => h
    apply oop; rfl; apply Pev.pick_and; rfl; exact yes; rfl; exact fun h => h
    apply OL.nx
    refine W.cond rfl (fun hb2 => ?_) (fun hb2 => ?_)
    · apply W.sr
      apply oas; rfl; rfl
      apply OL.nx
      refine W.rt ?_
      ((with_reducible apply At.fin1); rfl; rfl; intro w' hw')
      refine ⟨by rw [hbad (by rw [hoki]; grind)], by (exact hw'.fr)⟩
    apply W.sk
    apply W.sr
    apply ofa; rfl; rfl; rfl
    apply old; rfl; rfl; exact .tail _ (.head _); rfl; rfl
    apply obn; rfl; rfl; rfl; apply Bin.eql
    apply omv; rfl; rfl
    apply oy; rfl; rfl; rfl; apply Pev.move; rfl; exact yes
    apply oy; rfl; rfl; rfl; apply Pev.bin; rfl; exact fun h => h; rfl; exact yes; intro hcond; apply Bin.eql
    apply oy; rfl; rfl; rfl; apply Pev.move; rfl; exact fun h => h
    apply OL.op; exact Guard.cyes rfl rfl; rfl; rfl; apply Pev.fld; rfl; exact yes; rfl
    apply OL.op; exact Guard.cyes rfl rfl; rfl; rfl; apply Pev.load_blk; rfl; exact fun h => h; exact .head _; rfl; rfl
    apply OL.op; exact Guard.cyes rfl rfl; rfl; rfl; apply Pev.bin; rfl; exact fun h => h; rfl; exact yes; intro hcond; apply Bin.neq
    apply OL.op; exact Guard.cyes rfl rfl; rfl; rfl; apply Pev.move; rfl; exact fun h => h
    apply OL.op; exact Guard.cno rfl rfl; rfl; rfl; apply Pev.fld; rfl; exact yes; rfl
    apply OL.op; exact Guard.cno rfl rfl; rfl; rfl; apply Pev.load_blk; rfl; exact fun h => h; exact .head _; rfl; rfl
    apply OL.op; exact Guard.cno rfl rfl; rfl; rfl; apply Pev.len_slice; rfl; exact fun h => h; rfl
    apply OL.op; exact Guard.cno rfl rfl; rfl; rfl; apply Pev.bin; rfl; exact fun h => h; rfl; exact yes; intro hcond; apply Bin.neq
    apply OL.op; exact Guard.cyes rfl rfl; rfl; rfl; apply Pev.pick_or; rfl; exact fun h => h; rfl; exact fun h => h
    apply oy; rfl; rfl; rfl; apply Pev.pick_and; rfl; exact fun h => h; rfl; exact fun h => h
    apply oy; rfl; rfl; rfl; apply Pev.move; rfl; exact fun h => h
    apply OL.op; exact Guard.cno rfl rfl; rfl; rfl; apply Pev.move; rfl; exact yes
    apply OL.op; exact Guard.cno rfl rfl; rfl; rfl; apply Pev.bin; rfl; exact fun h => h; rfl; exact yes; intro hcond; apply Bin.gtr
    apply OL.op; exact Guard.cno rfl rfl; rfl; rfl; apply Pev.move; rfl; exact fun h => h
    apply OL.op; exact Guard.cyes rfl rfl; rfl; rfl; apply Pev.fld; rfl; exact yes; rfl
    apply OL.op; exact Guard.cyes rfl rfl; rfl; rfl; apply Pev.load_blk; rfl; exact fun h => h; exact .head _; rfl; rfl
    apply OL.op; exact Guard.cyes rfl rfl; rfl; rfl; apply Pev.bin; rfl; exact fun h => h; rfl; exact yes; intro hcond; apply Bin.lss
    apply OL.op; exact Guard.cyes rfl rfl; rfl; rfl; apply Pev.move; rfl; exact fun h => h
    apply OL.op; exact Guard.cno rfl rfl; rfl; rfl; apply Pev.fld; rfl; exact yes; rfl
    apply OL.op; exact Guard.cno rfl rfl; rfl; rfl; apply Pev.load_blk; rfl; exact fun h => h; exact .head _; rfl; rfl
    apply OL.op; exact Guard.cno rfl rfl; rfl; rfl; apply Pev.len_slice; rfl; exact fun h => h; rfl
    apply OL.op; exact Guard.cno rfl rfl; rfl; rfl; apply Pev.bin; rfl; exact fun h => h; rfl; exact yes; intro hcond; apply Bin.neq
    apply OL.op; exact Guard.cyes rfl rfl; rfl; rfl; apply Pev.pick_or; rfl; exact fun h => h; rfl; exact fun h => h
    apply OL.op; exact Guard.cno rfl rfl; rfl; rfl; apply Pev.pick_and; rfl; exact fun h => h; rfl; exact fun h => h
    apply oy; rfl; rfl; rfl; apply Pev.pick_or; rfl; exact fun h => h; rfl; exact fun h => h
    apply oop; rfl; apply Pev.pick_and; rfl; exact yes; rfl; exact fun h => h
    apply OL.nx
    refine W.cond rfl (fun hb3 => ?_) (fun hb3 => ?_)
    · apply W.sr
      apply oas; rfl; rfl
      apply OL.nx
      refine W.rt ?_
      ((with_reducible apply At.fin1); rfl; rfl; intro w' hw')
      refine ⟨by rw [hbad (by rw [hoki]; grind)], by (exact hw'.fr)⟩
    apply W.skip
    with_reducible apply At.in_normal
    with_reducible apply At.next
    apply W.reg
    apply obn; rfl; rfl; rfl; apply Bin.add_in; omega
    apply omv; rfl; rfl
    apply OL.nil
    refine At.again (k + 1) ⟨by omega, fun j hj => ?_⟩ (by omega) (by exact Sub.au) (fun w' hw' => hw'.thin (by exact Thin.au))
    by_cases e : j = k
    · subst e
      rw [hu2, hoki]
      simp only [Bool.and_eq_true, Bool.and_eq_false_iff, Bool.or_eq_false_iff, Bool.not_eq_true', Bool.not_eq_false', decide_eq_true_eq, decide_eq_false_iff_not, Bool.not_false, Bool.true_and, Bool.or_eq_true, Bool.not_eq_true] at hb hb2 hb3 ⊢
      omega
    · exact hall j (by omega)
  · obtain rfl : i = ps.length := by omega
    have hok : altsR1 x = true := by
      unfold altsR1
      rw [hpl]
      exact all_range hall
    refine W.xt ?_
    with_reducible apply At.next
    apply W.sr
    apply ofa; rfl; rfl; rfl
    apply old; rfl; rfl; exact .head _; rfl; rfl
    apply obn; rfl; rfl; rfl; apply Bin.eql
    apply omv; rfl; rfl
    apply ono; rfl; rfl; rfl; apply Pev.fld; rfl; exact yes; rfl
    apply ono; rfl; rfl; rfl; apply Pev.load_blk; rfl; exact fun h => h; exact .head _; rfl; rfl
    apply ono; rfl; rfl; rfl; apply Pev.len_slice; rfl; exact fun h => h; rfl
    apply ono; rfl; rfl; rfl; apply Pev.bin; rfl; exact fun h => h; rfl; exact yes; intro hcond; apply Bin.gtr
    apply oop; rfl; apply Pev.pick_or; rfl; exact yes; rfl; exact fun h => h
    apply oas; rfl; rfl
    apply OL.nx
    apply W.ret
    ((with_reducible apply At.fin1); rfl; rfl; intro w' hw')
    refine ⟨congrArg (fun b => Ending.returned (Value.bool b)) ?_, by (exact hw'.fr)⟩
    rw [hR, hok, hpl]
    grind
end Go.Proofs.YtlboppiogeaicaaDoor.co

/- The walks of the reference's numbersError, goodForm, goodKids. Conditions: none. (Printed by cra.py.) -/
namespace Go.Proofs.YtlboppiogeaicaaDoor.co
open Go.RowKit Go.Eng Go.Co
set_option linter.unusedVariables false
set_option linter.unusedSimpArgs false
set_option maxRecDepth 100000
theorem numE_bad {x : Ex} (h : rangesOk x = false) : numE x = 4 := by unfold numE; rw [if_pos h]
theorem numbersError_calls (x : Ex) (y : ExY) (w : World) (h : ExOk w (low w) x y) :
    Calls Tryd.prog 73 [.agg (exC x y).toArray].toArray w fun e w' => e = .returned (.int .i64 (numE x)) ∧ Ext w w' := by
  obtain ⟨ps, hps, harr⟩ := h.alts
  have hpl : x.alts.length = ps.length := by rw [← hps, List.length_map]
  have hal := h.al
  have hkl := h.kl
  have hbl := h.bl
  refine enter Tryd.func73 rfl Tryd.ntmps73 rfl (Cls.start w) ?_
  (simp only [argEnv, Nat.zero_add, Nat.reduceAdd])
  simp only [exC]
  apply W.sr
  apply OL.box; rfl; rfl; exact CellsL.agg; (intro bk hbk; simp only [AllLe, and_true] at hbk)
  apply oas; rfl; rfl
  apply OL.nsr
  apply oas; rfl; rfl
  apply oas; rfl; rfl
  apply OL.nx
  apply W.seq
  apply W.sr
  apply ofa; rfl; rfl; rfl
  apply old; rfl; rfl; exact .head _; rfl; rfl
  apply OL.nx
  revert bk
  intro b0 hb0
  refine W.joinx (G := Unit) (fun _ => True) (fun _ => [(1, true, .pointer (some ⟨b0, 0, none⟩)), (4, true, .int .i64 (highN x.op)), (3, true, .int .i64 (lowN x.op))]) (fun _ => Cls [blk b0 28 [.int .i64 x.op, .int .i64 x.n, .slice y.b.1 x.binds.length y.b.2, .slice y.k.1 x.kids.length y.k.2, .slice y.a.1 x.alts.length y.a.2]] [w]) ?_ ?_
  · skip
    apply W.block
    apply W.sr
    apply obn; rfl; rfl; rfl; apply Bin.eql
    apply oas; rfl; rfl
    apply OL.nx
    (refine W.cnd (fun r1 => ?_) (fun r1 => ?_)) <;> (try (exfalso; first | omega | exact r1 trivial | contradiction))
    · apply W.reg
      apply oas; rfl; rfl
      apply oas; rfl; rfl
      apply OL.nil
      with_reducible apply At.in_normal
      exact At.joinedx () trivial (by repeat (first | exact Sub.nil | apply Sub.cons rfl | (refine Sub.cons_eq rfl (congrArg (Value.int .i64) (by unfold highN; grind)) ?_) | (refine Sub.cons_eq rfl (congrArg (Value.int .i64) (by unfold lowN; grind)) ?_))) (fun w' hw' => hw')
    apply W.sr
    apply obn; rfl; rfl; rfl; apply Bin.eql
    apply oas; rfl; rfl
    apply OL.nx
    (refine W.cnd (fun r2 => ?_) (fun r2 => ?_)) <;> (try (exfalso; first | omega | exact r2 trivial | contradiction))
    · apply W.reg
      apply oas; rfl; rfl
      apply OL.nil
      with_reducible apply At.in_normal
      exact At.joinedx () trivial (by repeat (first | exact Sub.nil | apply Sub.cons rfl | (refine Sub.cons_eq rfl (congrArg (Value.int .i64) (by unfold highN; grind)) ?_) | (refine Sub.cons_eq rfl (congrArg (Value.int .i64) (by unfold lowN; grind)) ?_))) (fun w' hw' => hw')
    apply W.sr
    apply obn; rfl; rfl; rfl; apply Bin.eql
    apply oas; rfl; rfl
    apply OL.nx
    (refine W.cnd (fun r3 => ?_) (fun r3 => ?_)) <;> (try (exfalso; first | omega | exact r3 trivial | contradiction))
    · apply W.reg
      apply oas; rfl; rfl
      apply oas; rfl; rfl
      apply OL.nil
      with_reducible apply At.in_normal
      exact At.joinedx () trivial (by repeat (first | exact Sub.nil | apply Sub.cons rfl | (refine Sub.cons_eq rfl (congrArg (Value.int .i64) (by unfold highN; grind)) ?_) | (refine Sub.cons_eq rfl (congrArg (Value.int .i64) (by unfold lowN; grind)) ?_))) (fun w' hw' => hw')
    apply W.sr
    apply obn; rfl; rfl; rfl; apply Bin.eql
    apply oas; rfl; rfl
    apply OL.nx
    (refine W.cnd (fun r4 => ?_) (fun r4 => ?_)) <;> (try (exfalso; first | omega | exact r4 trivial | contradiction))
    · apply W.reg
      apply oas; rfl; rfl
      apply OL.nil
      with_reducible apply At.in_normal
      exact At.joinedx () trivial (by repeat (first | exact Sub.nil | apply Sub.cons rfl | (refine Sub.cons_eq rfl (congrArg (Value.int .i64) (by unfold highN; grind)) ?_) | (refine Sub.cons_eq rfl (congrArg (Value.int .i64) (by unfold lowN; grind)) ?_))) (fun w' hw' => hw')
    apply W.skip
    with_reducible apply At.in_normal
    exact At.joinedx () trivial (by repeat (first | exact Sub.nil | apply Sub.cons rfl | (refine Sub.cons_eq rfl (congrArg (Value.int .i64) (by unfold highN; grind)) ?_) | (refine Sub.cons_eq rfl (congrArg (Value.int .i64) (by unfold lowN; grind)) ?_))) (fun w' hw' => hw')
  rintro - -
  apply W.seq
  apply W.sr
  apply ofa; rfl; rfl; rfl
  apply old; rfl; rfl; exact .head _; rfl; rfl
  apply omv; rfl; rfl
  apply omv; rfl; rfl
  (((first | (with_reducible apply OL.op) | (with_reducible apply QL.op)); (exact Guard.au); rfl; rfl); (exact Pev.call rfl (by exact Args.au) (fun _ w2 hw2 => (inside_calls x.n (lowN x.op) (highN x.op) w2).mono (fun e w3 h => ⟨h.1, hw2.ext h.2⟩))))
  apply oop; rfl; apply Pev.not; rfl; exact yes
  apply OL.nx
  (refine W.cnd (fun hn => ?_) (fun hn => ?_)) <;> (try (exfalso; first | omega | exact hn trivial | contradiction))
  · apply W.sr
    apply oas; rfl; rfl
    apply OL.nx
    refine W.rt ?_
    ((with_reducible apply At.fin1); rfl; rfl; intro w' hw')
    refine ⟨by rw [numE_bad]; unfold rangesOk; grind, by (exact hw'.fr)⟩
  apply W.sk
  apply W.seq
  apply W.sr
  apply ofa; rfl; rfl; rfl
  apply old; rfl; rfl; exact .head _; rfl; rfl
  apply oop; rfl; apply Pev.len_slice; rfl; exact yes; rfl
  apply omv; rfl; rfl
  apply OL.nx
  apply W.block
  refine W.loop (G := Nat) (fun i => i ≤ x.binds.length ∧ ∀ (j : Nat) (v : Int), j < i → x.binds[j]? = some v → idB v = true) (fun i => x.binds.length - i)
    (fun i => [(1, true, .pointer (some ⟨b0, 0, none⟩)), (29, true, .slice y.b.1 x.binds.length y.b.2), (30, true, .int .i64 (x.binds.length : Int)), (31, true, .int .i64 (i : Int))])
    (fun _ => Cls [blk b0 28 [.int .i64 x.op, .int .i64 x.n, .slice y.b.1 x.binds.length y.b.2, .slice y.k.1 x.kids.length y.k.2, .slice y.a.1 x.alts.length y.a.2]] [w]) 0 ⟨by omega, fun j v hj => by omega⟩ (by exact Sub.au) (fun w' hw' => hw') ?_
  rintro i ⟨hi, hbs⟩
  apply W.sr
  apply obn; rfl; rfl; rfl; apply Bin.lss
  apply OL.nx
  apply W.seq
  (refine W.cnd (fun hlt => ?_) (fun hlt => ?_)) <;> (try (exfalso; first | omega | exact hlt trivial | contradiction))
  · have hil : i < x.binds.length := by omega
    obtain ⟨a, v, hqa, hab, hv, hcell⟩ := h.b.get hil
    have hab : a.block < w.heap.size := hab
    rw [hqa]
    apply W.sk
    apply W.sb
    apply W.sr
    apply oop; rfl; apply Pev.idx; rfl; exact yes; rfl; exact yes; rfl; rfl; intro hcond; omega
    apply oop; rfl; apply Pev.load_kept; rfl; exact yes; exact .head _; rfl; intro hcond; assumption; intro hcond; (rw [add_block]; assumption); intro hcond; exact NotOwned.au
    apply oas; rfl; rfl
    apply OL.nsr
    apply omv; rfl; rfl
    (((first | (with_reducible apply OL.op) | (with_reducible apply QL.op)); (exact Guard.au); rfl; rfl); (exact Pev.call rfl (by exact Args.au) (fun _ w2 hw2 => (inside_calls v 0 1048575 w2).mono (fun e w3 h => ⟨h.1, hw2.ext h.2⟩))))
    apply oop; rfl; apply Pev.not; rfl; exact yes
    apply OL.nx
    (refine W.cnd (fun hv2 => ?_) (fun hv2 => ?_)) <;> (try (exfalso; first | omega | exact hv2 trivial | contradiction))
    · apply W.sr
      apply oas; rfl; rfl
      apply OL.nx
      refine W.rt ?_
      ((with_reducible apply At.fin1); rfl; rfl; intro w' hw')
      refine ⟨?_, by (exact hw'.fr)⟩
      have hid : idB v = false := by unfold idB; grind
      have : x.binds.all idB = false := List.all_eq_false.2 ⟨v, List.mem_of_getElem? hv, by simp [hid]⟩
      rw [numE_bad]
      unfold rangesOk
      simp [this]
    apply W.skip
    with_reducible apply At.in_normal
    with_reducible apply At.next
    apply W.reg
    apply obn; rfl; rfl; rfl; apply Bin.add_in; omega
    apply omv; rfl; rfl
    apply OL.nil
    refine At.again (i + 1) ⟨by omega, fun j u hj hu => ?_⟩ (by omega) (by exact Sub.au) (fun w' hw' => hw')
    by_cases e : j = i
    · subst e
      rw [hv] at hu
      obtain rfl := Option.some.inj hu
      unfold idB
      grind
    · exact hbs j u (by omega) hu
  obtain rfl : i = x.binds.length := by omega
  have hball : x.binds.all idB = true := List.all_eq_true.2 fun v hv => by
    obtain ⟨j, hj⟩ := List.getElem?_of_mem hv
    exact hbs j v (List.getElem?_eq_some_iff.1 hj).1 hj
  clear hbs hlt hi
  rw [hpl]
  refine W.xt ?_
  with_reducible apply At.next
  apply W.sr
  apply oas; rfl; rfl
  apply OL.nx
  apply W.seq
  apply W.sr
  apply ofa; rfl; rfl; rfl
  apply old; rfl; rfl; exact .head _; rfl; rfl
  apply oop; rfl; apply Pev.len_slice; rfl; exact yes; rfl
  apply omv; rfl; rfl
  apply OL.nx
  apply W.block
  refine W.loop (G := Nat) (fun i => i ≤ ps.length ∧ (∀ (j : Nat) (p : Al × Sc), j < i → ps[j]? = some p → altR x.op p.1 = true) ∧ ((ps.take i).foldl (fun m p => max m p.1.binds.length) 0) ≤ 140737488355328) (fun i => ps.length - i)
    (fun i => [(1, true, .pointer (some ⟨b0, 0, none⟩)), (7, true, .int .i64 (((ps.take i).foldl (fun m p => max m p.1.binds.length) 0 : Nat) : Int)), (40, true, .slice y.a.1 ps.length y.a.2), (41, true, .int .i64 (ps.length : Int)), (42, true, .int .i64 (i : Int))])
    (fun _ => Cls [blk b0 28 [.int .i64 x.op, .int .i64 x.n, .slice y.b.1 x.binds.length y.b.2, .slice y.k.1 x.kids.length y.k.2, .slice y.a.1 ps.length y.a.2]] [w]) 0 ⟨by omega, fun j v hj => by omega, by simp⟩ (by exact Sub.au) (fun w' hw' => hw') ?_
  rintro i ⟨hi, has, hwd⟩
  apply W.sr
  apply obn; rfl; rfl; rfl; apply Bin.lss
  apply OL.nx
  apply W.seq
  (refine W.cnd (fun hlt => ?_) (fun hlt => ?_)) <;> (try (exfalso; first | omega | exact hlt trivial | contradiction))
  · have hil : i < ps.length := by omega
    obtain ⟨a, u, hq, hab, hu, hcell, hok⟩ := harr.get hil
    have hab : a.block < w.heap.size := hab
    have hcell : CellsAt w (a.add (i * 2)) [.int .i64 u.1.tag, .slice u.2.1 u.1.binds.length u.2.2] := hcell
    obtain ⟨htag, hul, huo⟩ := hok
    have hua : u.1 ∈ x.alts := by rw [← hps]; exact List.mem_map_of_mem (f := Prod.fst) (List.mem_of_getElem? hu)
    have hbad : altR x.op u.1 = false → numE x = 4 := fun hf => numE_bad (by
      have : x.alts.all (altR x.op) = false := List.all_eq_false.2 ⟨_, hua, by simp [hf]⟩
      unfold rangesOk
      simp [this])
    rw [hq]
    apply W.sk
    apply W.sb
    apply W.sr
    apply oop; rfl; apply Pev.idx; rfl; exact yes; rfl; exact yes; rfl; rfl; intro hcond; omega
    apply oop; rfl; apply Pev.load_keptA; rfl; exact yes; exact .head _; rfl; intro hcond; assumption; rfl; intro hcond; (rw [add_block]; assumption); intro hcond; exact NotOwned.au
    apply OL.alloc; rfl; rfl; exact CellsL.agg; (intro bk hbk; simp only [AllLe, and_true] at hbk)
    apply OL.storeB; rfl; rfl; exact CellsL.agg; rfl; rfl; rfl; exact Swap.au; exact Put.au
    apply OL.nx
    apply W.seq
    apply W.sr
    apply ofa; rfl; rfl; rfl
    apply old; rfl; rfl; exact .head _; rfl; rfl
    apply obn; rfl; rfl; rfl; apply Bin.geq
    apply omv; rfl; rfl
    apply ono; rfl; rfl; rfl; apply Pev.fld; rfl; exact yes; rfl
    apply ono; rfl; rfl; rfl; apply Pev.load_blk; rfl; exact fun h => h; exact .tail _ (.head _); rfl; rfl
    apply ono; rfl; rfl; rfl; apply Pev.bin; rfl; exact fun h => h; rfl; exact yes; intro hcond; apply Bin.eql
    apply ono; rfl; rfl; rfl; apply Pev.move; rfl; exact fun h => h
    apply OL.op; exact Guard.cyes rfl rfl; rfl; rfl; apply Pev.fld; rfl; exact yes; rfl
    apply OL.op; exact Guard.cyes rfl rfl; rfl; rfl; apply Pev.load_blk; rfl; exact fun h => h; exact .head _; rfl; rfl
    apply OL.op; exact Guard.cyes rfl rfl; rfl; rfl; apply Pev.bin; rfl; exact fun h => h; rfl; exact yes; intro hcond; apply Bin.gtr
    apply ono; rfl; rfl; rfl; apply Pev.pick_and; rfl; exact fun h => h; rfl; exact fun h => h
    apply oop; rfl; apply Pev.pick_or; rfl; exact yes; rfl; exact fun h => h
    apply OL.nx
    refine W.cond rfl (fun hb => ?_) (fun hb => ?_)
    · apply W.sr
      apply oas; rfl; rfl
      apply OL.nx
      refine W.rt ?_
      ((with_reducible apply At.fin1); rfl; rfl; intro w' hw')
      refine ⟨by rw [hbad (by unfold altR; grind)], by (exact hw'.fr)⟩
    apply W.sk
    apply W.seq
    apply W.sr
    apply ofa; rfl; rfl; rfl
    apply old; rfl; rfl; exact .head _; rfl; rfl
    apply oop; rfl; apply Pev.len_slice; rfl; exact yes; rfl
    apply omv; rfl; rfl
    apply OL.nx
    apply W.block
    refine W.loop (G := Nat) (fun k => k ≤ u.1.binds.length ∧ ∀ (j : Nat) (v : Int), j < k → u.1.binds[j]? = some v → idB v = true) (fun k => u.1.binds.length - k)
      (fun k => [(1, true, .pointer (some ⟨b0, 0, none⟩)), (7, true, .int .i64 (((ps.take i).foldl (fun m p => max m p.1.binds.length) 0 : Nat) : Int)), (9, true, .pointer (some ⟨bk, 0, none⟩)), (40, true, .slice (some a) ps.length y.a.2), (41, true, .int .i64 (ps.length : Int)), (42, true, .int .i64 (i : Int)), (60, true, .slice u.2.1 u.1.binds.length u.2.2), (61, true, .int .i64 (u.1.binds.length : Int)), (62, true, .int .i64 (k : Int))])
      (fun _ => Cls [blk bk 132 [.int .i64 u.1.tag, .slice u.2.1 u.1.binds.length u.2.2], blk b0 28 [.int .i64 x.op, .int .i64 x.n, .slice y.b.1 x.binds.length y.b.2, .slice y.k.1 x.kids.length y.k.2, .slice (some a) ps.length y.a.2]] [w]) 0 ⟨by omega, fun j v hj => by omega⟩ (by exact Sub.au) (fun w' hw' => by first | exact hw' | (rw [hq] at hw'; exact hw')) ?_
    rintro k ⟨hk, hbs⟩
    apply W.sr
    apply obn; rfl; rfl; rfl; apply Bin.lss
    apply OL.nx
    apply W.seq
    (refine W.cnd (fun hlt2 => ?_) (fun hlt2 => ?_)) <;> (try (exfalso; first | omega | exact hlt2 trivial | contradiction))
    · have hkl2 : k < u.1.binds.length := by omega
      obtain ⟨av, v, hqv, habv, hv, hcv⟩ := huo.get hkl2
      have habv : av.block < w.heap.size := habv
      rw [hqv]
      apply W.sk
      apply W.sb
      apply W.sr
      apply oop; rfl; apply Pev.idx; rfl; exact yes; rfl; exact yes; rfl; rfl; intro hcond; omega
      apply oop; rfl; apply Pev.load_kept; rfl; exact yes; exact .head _; rfl; intro hcond; assumption; intro hcond; (rw [add_block]; assumption); intro hcond; exact NotOwned.au
      apply oas; rfl; rfl
      apply OL.nsr
      apply omv; rfl; rfl
      (((first | (with_reducible apply OL.op) | (with_reducible apply QL.op)); (exact Guard.au); rfl; rfl); (exact Pev.call rfl (by exact Args.au) (fun _ w2 hw2 => (inside_calls v 0 1048575 w2).mono (fun e w3 h => ⟨h.1, hw2.ext h.2⟩))))
      apply oop; rfl; apply Pev.not; rfl; exact yes
      apply OL.nx
      (refine W.cnd (fun hv2 => ?_) (fun hv2 => ?_)) <;> (try (exfalso; first | omega | exact hv2 trivial | contradiction))
      · apply W.sr
        apply oas; rfl; rfl
        apply OL.nx
        refine W.rt ?_
        ((with_reducible apply At.fin1); rfl; rfl; intro w' hw')
        refine ⟨?_, by (exact hw'.fr)⟩
        have hid : idB v = false := by unfold idB; grind
        have : u.1.binds.all idB = false := List.all_eq_false.2 ⟨v, List.mem_of_getElem? hv, by simp [hid]⟩
        rw [hbad (by unfold altR; simp [this])]
      apply W.skip
      with_reducible apply At.in_normal
      with_reducible apply At.next
      apply W.reg
      apply obn; rfl; rfl; rfl; apply Bin.add_in; omega
      apply omv; rfl; rfl
      apply OL.nil
      refine At.again (k + 1) ⟨by omega, fun j z hj hz => ?_⟩ (by omega) (by exact Sub.au) (fun w' hw' => by first | exact hw' | (rw [hqv] at hw'; exact hw') | (rw [← hqv] at hw'; exact hw'))
      by_cases e : j = k
      · subst e
        rw [hv] at hz
        obtain rfl := Option.some.inj hz
        unfold idB
        grind
      · exact hbs j z (by omega) hz
    obtain rfl : k = u.1.binds.length := by omega
    have huall : u.1.binds.all idB = true := List.all_eq_true.2 fun v hv => by
      obtain ⟨j, hj⟩ := List.getElem?_of_mem hv
      exact hbs j v (List.getElem?_eq_some_iff.1 hj).1 hj
    have hfold : (ps.take (i + 1)).foldl (fun m p => max m p.1.binds.length) 0 = max ((ps.take i).foldl (fun m p => max m p.1.binds.length) 0) u.1.binds.length := by
      rw [List.take_add_one, hu]
      simp [List.foldl_append]
    refine W.xt ?_
    with_reducible apply At.next
    apply W.reg
    apply omv; rfl; rfl
    apply ofa; rfl; rfl; rfl
    apply old; rfl; rfl; exact .head _; rfl; rfl
    apply oop; rfl; apply Pev.len_slice; rfl; exact yes; rfl
    apply oop; rfl; apply Pev.max2; rfl; exact yes; rfl; exact yes
    apply oas; rfl; rfl
    apply OL.nil
    with_reducible apply At.in_normal
    with_reducible apply At.next
    apply W.reg
    apply obn; rfl; rfl; rfl; apply Bin.add_in; omega
    apply omv; rfl; rfl
    apply OL.nil
    try rw [max_if]
    refine At.again (i + 1) ⟨by omega, fun j p hj hp => ?_, by rw [hfold]; omega⟩ (by omega) (by rw [hfold]; first | exact Sub.au) (fun w' hw' => hw'.thin (by exact Thin.au))
    by_cases e : j = i
    · subst e
      rw [hu] at hp
      obtain rfl := Option.some.inj hp
      unfold altR
      grind
    · exact has j p (by omega) hp
  · obtain rfl : i = ps.length := by omega
    rw [List.take_length] at hwd ⊢
    have haall : x.alts.all (altR x.op) = true := List.all_eq_true.2 fun v hv => by
      rw [← hps] at hv
      obtain ⟨p, hp, rfl⟩ := List.mem_map.1 hv
      obtain ⟨j, hj⟩ := List.getElem?_of_mem hp
      exact has j p (List.getElem?_eq_some_iff.1 hj).1 hj
    have hrok : rangesOk x = true := by unfold rangesOk; grind
    have hwide : altW x.alts = ps.foldl (fun m p => max m p.1.binds.length) 0 := by
      unfold altW
      rw [← hps, List.foldl_map]
    rw [← hwide] at hwd ⊢
    have hre : numE x = if (x.op = 2 ∧ 6 < x.binds.length) ∨ (x.op = 3 ∧ 7 < x.kids.length) ∨ (x.op = 14 ∧ 6 < x.kids.length) ∨ ((x.op = 6 ∨ x.op = 15) ∧ 16 < x.kids.length) ∨ 16 < x.binds.length ∨ 16 < altW x.alts then 2 else 0 := by
      unfold numE
      rw [if_neg (by simp [hrok])]
    refine W.xt ?_
    with_reducible apply At.next
    apply W.sb
    apply W.seq
    apply W.sr
    apply ofa; rfl; rfl; rfl
    apply old; rfl; rfl; exact .head _; rfl; rfl
    apply obn; rfl; rfl; rfl; apply Bin.eql
    apply omv; rfl; rfl
    apply oy; rfl; rfl; rfl; apply Pev.fld; rfl; exact yes; rfl
    apply oy; rfl; rfl; rfl; apply Pev.load_blk; rfl; exact fun h => h; exact .head _; rfl; rfl
    apply oy; rfl; rfl; rfl; apply Pev.len_slice; rfl; exact fun h => h; rfl
    apply oy; rfl; rfl; rfl; apply Pev.bin; rfl; exact fun h => h; rfl; exact yes; intro hcond; apply Bin.gtr
    apply oop; rfl; apply Pev.pick_and; rfl; exact yes; rfl; exact fun h => h
    apply oas; rfl; rfl
    apply OL.nx
    refine W.cond rfl (fun c1 => ?_) (fun c1 => ?_)
    · apply W.sk
      refine W.cond rfl (fun _ => ?_) (fun h4 => by rw [c1] at h4; cases h4)
      apply W.sr
      apply oas; rfl; rfl
      apply OL.nx
      refine W.rt ?_
      ((with_reducible apply At.fin1); rfl; rfl; intro w' hw')
      exact ⟨by rw [hre, if_pos (by simp only [Bool.and_eq_true, Bool.and_eq_false_iff, Bool.or_eq_false_iff, Bool.not_eq_true', Bool.not_eq_false', decide_eq_true_eq, decide_eq_false_iff_not, Bool.or_eq_true, Bool.not_eq_true] at c1; omega)], by (exact hw'.fr)⟩
    apply W.sr
    apply ofa; rfl; rfl; rfl
    apply old; rfl; rfl; exact .head _; rfl; rfl
    apply obn; rfl; rfl; rfl; apply Bin.eql
    apply omv; rfl; rfl
    apply oy; rfl; rfl; rfl; apply Pev.fld; rfl; exact yes; rfl
    apply oy; rfl; rfl; rfl; apply Pev.load_blk; rfl; exact fun h => h; exact .head _; rfl; rfl
    apply oy; rfl; rfl; rfl; apply Pev.len_slice; rfl; exact fun h => h; rfl
    apply oy; rfl; rfl; rfl; apply Pev.bin; rfl; exact fun h => h; rfl; exact yes; intro hcond; apply Bin.gtr
    apply oop; rfl; apply Pev.pick_and; rfl; exact yes; rfl; exact fun h => h
    apply oas; rfl; rfl
    apply OL.nx
    refine W.cond rfl (fun c2 => ?_) (fun c2 => ?_)
    · apply W.sk
      refine W.cond rfl (fun _ => ?_) (fun h4 => by rw [c2] at h4; cases h4)
      apply W.sr
      apply oas; rfl; rfl
      apply OL.nx
      refine W.rt ?_
      ((with_reducible apply At.fin1); rfl; rfl; intro w' hw')
      exact ⟨by rw [hre, if_pos (by simp only [Bool.and_eq_true, Bool.and_eq_false_iff, Bool.or_eq_false_iff, Bool.not_eq_true', Bool.not_eq_false', decide_eq_true_eq, decide_eq_false_iff_not, Bool.or_eq_true, Bool.not_eq_true] at c2; omega)], by (exact hw'.fr)⟩
    apply W.reg
    apply ofa; rfl; rfl; rfl
    apply old; rfl; rfl; exact .head _; rfl; rfl
    apply obn; rfl; rfl; rfl; apply Bin.eql
    apply omv; rfl; rfl
    apply oy; rfl; rfl; rfl; apply Pev.fld; rfl; exact yes; rfl
    apply oy; rfl; rfl; rfl; apply Pev.load_blk; rfl; exact fun h => h; exact .head _; rfl; rfl
    apply oy; rfl; rfl; rfl; apply Pev.len_slice; rfl; exact fun h => h; rfl
    apply oy; rfl; rfl; rfl; apply Pev.bin; rfl; exact fun h => h; rfl; exact yes; intro hcond; apply Bin.gtr
    apply oop; rfl; apply Pev.pick_and; rfl; exact yes; rfl; exact fun h => h
    apply oas; rfl; rfl
    apply OL.nx
    refine W.cond rfl (fun c3 => ?_) (fun c3 => ?_)
    · apply W.sr
      apply oas; rfl; rfl
      apply OL.nx
      refine W.rt ?_
      ((with_reducible apply At.fin1); rfl; rfl; intro w' hw')
      exact ⟨by rw [hre, if_pos (by simp only [Bool.and_eq_true, Bool.and_eq_false_iff, Bool.or_eq_false_iff, Bool.not_eq_true', Bool.not_eq_false', decide_eq_true_eq, decide_eq_false_iff_not, Bool.or_eq_true, Bool.not_eq_true] at c3; omega)], by (exact hw'.fr)⟩
    apply W.seq
    apply W.sr
    apply ofa; rfl; rfl; rfl
    apply old; rfl; rfl; exact .head _; rfl; rfl
    apply obn; rfl; rfl; rfl; apply Bin.eql
    apply omv; rfl; rfl
    apply ono; rfl; rfl; rfl; apply Pev.fld; rfl; exact yes; rfl
    apply ono; rfl; rfl; rfl; apply Pev.load_blk; rfl; exact fun h => h; exact .head _; rfl; rfl
    apply ono; rfl; rfl; rfl; apply Pev.bin; rfl; exact fun h => h; rfl; exact yes; intro hcond; apply Bin.eql
    apply oop; rfl; apply Pev.pick_or; rfl; exact yes; rfl; exact fun h => h
    apply omv; rfl; rfl
    apply oy; rfl; rfl; rfl; apply Pev.fld; rfl; exact yes; rfl
    apply oy; rfl; rfl; rfl; apply Pev.load_blk; rfl; exact fun h => h; exact .head _; rfl; rfl
    apply oy; rfl; rfl; rfl; apply Pev.len_slice; rfl; exact fun h => h; rfl
    apply oy; rfl; rfl; rfl; apply Pev.bin; rfl; exact fun h => h; rfl; exact yes; intro hcond; apply Bin.gtr
    apply oop; rfl; apply Pev.pick_and; rfl; exact yes; rfl; exact fun h => h
    apply oas; rfl; rfl
    apply OL.nx
    refine W.cond rfl (fun c4 => ?_) (fun c4 => ?_)
    · apply W.sk
      refine W.cond rfl (fun _ => ?_) (fun h4 => by rw [c4] at h4; cases h4)
      apply W.sr
      apply oas; rfl; rfl
      apply OL.nx
      refine W.rt ?_
      ((with_reducible apply At.fin1); rfl; rfl; intro w' hw')
      exact ⟨by rw [hre, if_pos (by simp only [Bool.and_eq_true, Bool.and_eq_false_iff, Bool.or_eq_false_iff, Bool.not_eq_true', Bool.not_eq_false', decide_eq_true_eq, decide_eq_false_iff_not, Bool.or_eq_true, Bool.not_eq_true] at c4; omega)], by (exact hw'.fr)⟩
    apply W.sr
    apply ofa; rfl; rfl; rfl
    apply old; rfl; rfl; exact .head _; rfl; rfl
    apply oop; rfl; apply Pev.len_slice; rfl; exact yes; rfl
    apply obn; rfl; rfl; rfl; apply Bin.gtr
    apply oas; rfl; rfl
    apply OL.nx
    refine W.cond rfl (fun c5 => ?_) (fun c5 => ?_)
    · apply W.sk
      refine W.cond rfl (fun _ => ?_) (fun h4 => by rw [c5] at h4; cases h4)
      apply W.sr
      apply oas; rfl; rfl
      apply OL.nx
      refine W.rt ?_
      ((with_reducible apply At.fin1); rfl; rfl; intro w' hw')
      exact ⟨by rw [hre, if_pos (by simp only [Bool.and_eq_true, Bool.and_eq_false_iff, Bool.or_eq_false_iff, Bool.not_eq_true', Bool.not_eq_false', decide_eq_true_eq, decide_eq_false_iff_not, Bool.or_eq_true, Bool.not_eq_true] at c5; omega)], by (exact hw'.fr)⟩
    apply W.reg
    apply omv; rfl; rfl
    apply obn; rfl; rfl; rfl; apply Bin.gtr
    apply oas; rfl; rfl
    apply OL.nx
    refine W.cond rfl (fun c6 => ?_) (fun c6 => ?_)
    · apply W.sr
      apply oas; rfl; rfl
      apply OL.nx
      refine W.rt ?_
      ((with_reducible apply At.fin1); rfl; rfl; intro w' hw')
      exact ⟨by rw [hre, if_pos (by simp only [Bool.and_eq_true, Bool.and_eq_false_iff, Bool.or_eq_false_iff, Bool.not_eq_true', Bool.not_eq_false', decide_eq_true_eq, decide_eq_false_iff_not, Bool.or_eq_true, Bool.not_eq_true] at c6; omega)], by (exact hw'.fr)⟩
    apply W.skip
    with_reducible apply At.in_normal
    with_reducible apply At.next
    apply W.sr
    apply oas; rfl; rfl
    apply OL.nx
    apply W.ret
    ((with_reducible apply At.fin1); rfl; rfl; intro w' hw')
    exact ⟨by rw [hre, if_neg (by simp only [Bool.and_eq_true, Bool.and_eq_false_iff, Bool.or_eq_false_iff, Bool.not_eq_true', Bool.not_eq_false', decide_eq_true_eq, decide_eq_false_iff_not, Bool.or_eq_true, Bool.not_eq_true] at c1 c2 c3 c4 c5 c6; omega)], by (exact hw'.fr)⟩
end Go.Proofs.YtlboppiogeaicaaDoor.co

/- The walks of the reference's In, Scope and Binds. Conditions: none. -/
namespace Go.Co
open Go.Eng Go.RowKit
set_option linter.unusedVariables false
set_option linter.unusedSimpArgs false
theorem drop_mem {l : List Int} {i : Nat} {v n : Int} (h : l[i]? = some v) : n ∈ l.drop i ↔ v = n ∨ n ∈ l.drop (i + 1) := by
  obtain ⟨hi, rfl⟩ := List.getElem?_eq_some_iff.1 h
  rw [List.drop_eq_getElem_cons hi, List.mem_cons]
  exact ⟨fun h => h.imp Eq.symm id, fun h => h.imp Eq.symm id⟩
end Go.Co
namespace Go.Proofs.YtlboppiogeaicaaDoor.co
open Go.RowKit Go.Eng Go.Co
set_option linter.unusedVariables false
set_option linter.unusedSimpArgs false
set_option maxRecDepth 100000
theorem In_calls (q : Option Addr) (cap : Nat) (l : List Int) (s : Int) (w : World) (hlen : l.length ≤ 9223372036854775807) (h : IntsO w (low w) l q) :
    Calls Tryd.prog 47 [.slice q l.length cap, .int .i64 s].toArray w fun e w' => e = .returned (.bool (decide (s ∈ l))) ∧ Ext w w' := by
  refine enter Tryd.func47 rfl Tryd.ntmps47 rfl (Cls.start w) ?_
  (simp only [argEnv, Nat.zero_add, Nat.reduceAdd])
  apply W.sr
  apply oas; rfl; rfl
  apply OL.nx
  apply W.seq
  apply W.sr
  apply omv; rfl; rfl
  apply oop; rfl; apply Pev.len_slice; rfl; exact yes; rfl
  apply omv; rfl; rfl
  apply OL.nx
  apply W.block
  refine W.loop (G := Nat) (fun i => i ≤ l.length ∧ (s ∈ l.drop i ↔ s ∈ l)) (fun i => l.length - i)
    (fun i => [(1, true, .int .i64 s), (7, true, .slice q l.length cap), (8, true, .int .i64 (l.length : Int)), (9, true, .int .i64 (i : Int))])
    (fun i => Cls [] [w]) 0 ⟨by omega, by simp⟩ (by exact Sub.au) (fun w' hw' => hw') ?_
  rintro i ⟨hi, hrest⟩
  apply W.sr
  apply obn; rfl; rfl; rfl; apply Bin.lss
  apply OL.nx
  apply W.seq
  (refine W.cnd (fun hlt => ?_) (fun hlt => ?_)) <;> (try (exfalso; first | omega | exact hlt trivial | contradiction))
  · obtain ⟨a, u, rfl, hab, hu, hcell⟩ := h.get (show i < l.length by omega)
    have hab : a.block < w.heap.size := hab
    rw [drop_mem hu] at hrest
    apply W.sk
    apply W.sb
    apply W.sr
    apply oop; rfl; apply Pev.idx; rfl; exact yes; rfl; exact yes; rfl; rfl; intro hcond; omega
    apply oop; rfl; apply Pev.load_kept; rfl; exact yes; exact .head _; rfl; intro hcond; assumption; intro hcond; (rw [add_block]; assumption); intro hcond; exact NotOwned.au
    apply oas; rfl; rfl
    apply OL.nsr
    apply omv; rfl; rfl
    apply omv; rfl; rfl
    apply obn; rfl; rfl; rfl; apply Bin.eql
    apply OL.nx
    (refine W.cnd (fun heq => ?_) (fun heq => ?_)) <;> (try (exfalso; first | omega | exact heq trivial | contradiction))
    · apply W.sr
      apply oas; rfl; rfl
      apply OL.nx
      refine W.rt ?_
      ((with_reducible apply At.fin1); rfl; rfl; intro w' hw')
      have : s ∈ l := hrest.1 (.inl heq)
      exact ⟨by simp [this], by (exact hw'.fr)⟩
    · apply W.skip
      with_reducible apply At.in_normal
      with_reducible apply At.next
      apply W.reg
      apply obn; rfl; rfl; rfl; apply Bin.add_in; omega
      apply omv; rfl; rfl
      apply OL.nil
      refine At.again (i + 1) ⟨by omega, ?_⟩ (by omega) (by exact Sub.au) (fun w' hw' => hw')
      rw [← hrest]
      exact ⟨.inr, fun h => h.resolve_left heq⟩
  · refine W.xt ?_
    with_reducible apply At.next
    apply W.sr
    apply oas; rfl; rfl
    apply OL.nx
    apply W.ret
    ((with_reducible apply At.fin1); rfl; rfl; intro w' hw')
    rw [List.drop_eq_nil_of_le (by omega)] at hrest
    have : ¬ s ∈ l := fun h => by simpa using hrest.2 h
    exact ⟨by simp [this], by (exact hw'.fr)⟩
theorem Scope_calls (x : Ex) (y : ExY) (k : Nat) (w : World) (h : ExOk w (low w) x y) (hk7 : x.op = 7 ∨ x.op = 13 → k ≤ x.alts.length) (ha : ¬ (x.op = 7 ∨ x.op = 13) → x.alts.length = 0) (hk : k ≤ 140737488355328) :
    ∃ q c, IntsO w (low w) (scopeX x k) q ∧ (scopeX x k).length ≤ 140737488355328 ∧ ∀ w2, (∀ k, k < w.heap.size → w2.heap[k]? = w.heap[k]?) → w.heap.size ≤ w2.heap.size → Calls Tryd.prog 77 [.agg (exC x y).toArray, .int .i64 (k : Int)].toArray w2 fun e w' => e = .returned (.slice q (scopeX x k).length c) ∧ Ext w2 w' := by
  obtain ⟨ps, hps, harr⟩ := h.alts
  have hpl : x.alts.length = ps.length := by rw [← hps, List.length_map]
  have hal := h.al
  have hbl := h.bl
  by_cases hA : x.op = 2 ∨ x.op = 5 ∨ (x.op = 4 ∧ k = 1)
  · have hs : scopeX x k = x.binds := by unfold scopeX bound; rw [if_pos hA]
    rw [hs]
    refine ⟨y.b.1, y.b.2, h.b, hbl, fun w2 hsame hsz => ?_⟩
    refine enter Tryd.func77 rfl Tryd.ntmps77 rfl (Cls.start w2) ?_
    (simp only [argEnv, Nat.zero_add, Nat.reduceAdd])
    simp only [exC]
    apply W.sr
    apply OL.box; rfl; rfl; exact CellsL.agg; (intro bk hbk; simp only [AllLe, and_true] at hbk)
    apply oas; rfl; rfl
    apply OL.nx
    apply W.seq
    apply W.sr
    apply ofa; rfl; rfl; rfl
    apply old; rfl; rfl; exact .head _; rfl; rfl
    apply obn; rfl; rfl; rfl; apply Bin.eql
    apply omv; rfl; rfl
    apply ono; rfl; rfl; rfl; apply Pev.fld; rfl; exact yes; rfl
    apply ono; rfl; rfl; rfl; apply Pev.load_blk; rfl; exact fun h => h; exact .head _; rfl; rfl
    apply ono; rfl; rfl; rfl; apply Pev.bin; rfl; exact fun h => h; rfl; exact yes; intro hcond; apply Bin.eql
    apply oop; rfl; apply Pev.pick_or; rfl; exact yes; rfl; exact fun h => h
    apply omv; rfl; rfl
    apply ono; rfl; rfl; rfl; apply Pev.fld; rfl; exact yes; rfl
    apply ono; rfl; rfl; rfl; apply Pev.load_blk; rfl; exact fun h => h; exact .head _; rfl; rfl
    apply ono; rfl; rfl; rfl; apply Pev.bin; rfl; exact fun h => h; rfl; exact yes; intro hcond; apply Bin.eql
    apply ono; rfl; rfl; rfl; apply Pev.move; rfl; exact fun h => h
    apply OL.op; exact Guard.cyes rfl rfl; rfl; rfl; apply Pev.move; rfl; exact yes
    apply OL.op; exact Guard.cyes rfl rfl; rfl; rfl; apply Pev.bin; rfl; exact fun h => h; rfl; exact yes; intro hcond; apply Bin.eql
    apply ono; rfl; rfl; rfl; apply Pev.pick_and; rfl; exact fun h => h; rfl; exact fun h => h
    apply oop; rfl; apply Pev.pick_or; rfl; exact yes; rfl; exact fun h => h
    apply OL.nx
    refine W.cond rfl (fun hb => ?_) (fun hb => by grind)
    apply W.sr
    apply ofa; rfl; rfl; rfl
    apply old; rfl; rfl; exact .head _; rfl; rfl
    apply oas; rfl; rfl
    apply OL.nx
    refine W.rt ?_
    ((with_reducible apply At.fin1); rfl; rfl; intro w' hw')
    exact ⟨rfl, by (exact hw'.fr)⟩
  have hs0 : scopeX x k = if 0 < x.alts.length ∧ 0 < k ∧ k ≤ x.alts.length then (x.alts.getD (k - 1) ⟨0, []⟩).binds else [] := by unfold scopeX bound; rw [if_neg hA]
  by_cases hB : (x.op = 7 ∨ x.op = 13) ∧ 0 < k
  · have hka := hk7 hB.1
    obtain ⟨a, u, hq, hab1, hu, hcell, hok⟩ := harr.get (i := k - 1) (by omega)
    have hab1 : a.block < w.heap.size := hab1
    have hcell : CellsAt w (a.add (((k : Int) - 1).toNat * 2)) [.int .i64 u.1.tag, .slice u.2.1 u.1.binds.length u.2.2] := by rw [show ((k : Int) - 1).toNat = k - 1 by omega]; exact hcell
    have hs : scopeX x k = u.1.binds := by
      rw [hs0, if_pos ⟨by omega, hB.2, hka⟩]
      have : x.alts[k - 1]? = some u.1 := by rw [← hps, List.getElem?_map, hu]; rfl
      simp [List.getD, this]
    rw [hs]
    refine ⟨u.2.1, u.2.2, hok.2.2, hok.2.1.1, fun w2 hsame hsz => ?_⟩
    have hcell : CellsAt w2 (a.add (((k : Int) - 1).toNat * 2)) [.int .i64 u.1.tag, .slice u.2.1 u.1.binds.length u.2.2] := cells_stab (by rw [add_block]; exact hsame _ hab1) hcell
    have hab1 : a.block < w2.heap.size := Nat.lt_of_lt_of_le hab1 hsz
    have hkx : k ≤ x.alts.length := hka
    refine enter Tryd.func77 rfl Tryd.ntmps77 rfl (Cls.start w2) ?_
    (simp only [argEnv, Nat.zero_add, Nat.reduceAdd])
    simp only [exC, hq]
    apply W.sr
    apply OL.box; rfl; rfl; exact CellsL.agg; (intro bk hbk; simp only [AllLe, and_true] at hbk)
    apply oas; rfl; rfl
    apply OL.nx
    apply W.seq
    apply W.sr
    apply ofa; rfl; rfl; rfl
    apply old; rfl; rfl; exact .head _; rfl; rfl
    apply obn; rfl; rfl; rfl; apply Bin.eql
    apply omv; rfl; rfl
    apply ono; rfl; rfl; rfl; apply Pev.fld; rfl; exact yes; rfl
    apply ono; rfl; rfl; rfl; apply Pev.load_blk; rfl; exact fun h => h; exact .head _; rfl; rfl
    apply ono; rfl; rfl; rfl; apply Pev.bin; rfl; exact fun h => h; rfl; exact yes; intro hcond; apply Bin.eql
    apply oop; rfl; apply Pev.pick_or; rfl; exact yes; rfl; exact fun h => h
    apply omv; rfl; rfl
    apply ono; rfl; rfl; rfl; apply Pev.fld; rfl; exact yes; rfl
    apply ono; rfl; rfl; rfl; apply Pev.load_blk; rfl; exact fun h => h; exact .head _; rfl; rfl
    apply ono; rfl; rfl; rfl; apply Pev.bin; rfl; exact fun h => h; rfl; exact yes; intro hcond; apply Bin.eql
    apply ono; rfl; rfl; rfl; apply Pev.move; rfl; exact fun h => h
    apply OL.op; exact Guard.cyes rfl rfl; rfl; rfl; apply Pev.move; rfl; exact yes
    apply OL.op; exact Guard.cyes rfl rfl; rfl; rfl; apply Pev.bin; rfl; exact fun h => h; rfl; exact yes; intro hcond; apply Bin.eql
    apply ono; rfl; rfl; rfl; apply Pev.pick_and; rfl; exact fun h => h; rfl; exact fun h => h
    apply oop; rfl; apply Pev.pick_or; rfl; exact yes; rfl; exact fun h => h
    apply OL.nx
    refine W.cond rfl (fun hb => by grind) (fun hb => ?_)
    apply W.sk
    apply W.seq
    apply W.sr
    apply ofa; rfl; rfl; rfl
    apply old; rfl; rfl; exact .head _; rfl; rfl
    apply obn; rfl; rfl; rfl; apply Bin.eql
    apply omv; rfl; rfl
    apply ono; rfl; rfl; rfl; apply Pev.fld; rfl; exact yes; rfl
    apply ono; rfl; rfl; rfl; apply Pev.load_blk; rfl; exact fun h => h; exact .head _; rfl; rfl
    apply ono; rfl; rfl; rfl; apply Pev.bin; rfl; exact fun h => h; rfl; exact yes; intro hcond; apply Bin.eql
    apply oop; rfl; apply Pev.pick_or; rfl; exact yes; rfl; exact fun h => h
    apply omv; rfl; rfl
    apply oy; rfl; rfl; rfl; apply Pev.move; rfl; exact yes
    apply oy; rfl; rfl; rfl; apply Pev.bin; rfl; exact fun h => h; rfl; exact yes; intro hcond; apply Bin.gtr
    apply oop; rfl; apply Pev.pick_and; rfl; exact yes; rfl; exact fun h => h
    apply OL.nx
    refine W.cond rfl (fun hb2 => ?_) (fun hb2 => by grind)
    apply W.sr
    apply ofa; rfl; rfl; rfl
    apply old; rfl; rfl; exact .head _; rfl; rfl
    apply omv; rfl; rfl
    apply obn; rfl; rfl; rfl; apply Bin.sub_in; omega
    apply oop; rfl; apply Pev.idxI; rfl; exact yes; rfl; exact yes; rfl; intro hcond; omega
    apply oop; rfl; apply Pev.fldA; rfl; exact yes; rfl
    apply oop; rfl; apply Pev.load_kept; rfl; exact yes; exact .head _; rfl; intro hcond; apply CellsAt.at_ (by assumption) rfl; intro hcond; (simp only [add_block]; assumption); intro hcond; exact NotOwned.au
    apply oas; rfl; rfl
    apply OL.nx
    refine W.rt ?_
    ((with_reducible apply At.fin1); rfl; rfl; intro w' hw')
    exact ⟨rfl, by (exact hw'.fr)⟩
  · have hs : scopeX x k = [] := by
      rw [hs0, if_neg]
      rintro ⟨h1, h2, h3⟩
      by_cases h7 : x.op = 7 ∨ x.op = 13
      · exact hB ⟨h7, h2⟩
      · have := ha h7
        omega
    rw [hs]
    refine ⟨none, 0, IntsO.nil, by simp, fun w2 hsame hsz => ?_⟩
    refine enter Tryd.func77 rfl Tryd.ntmps77 rfl (Cls.start w2) ?_
    (simp only [argEnv, Nat.zero_add, Nat.reduceAdd])
    simp only [exC]
    apply W.sr
    apply OL.box; rfl; rfl; exact CellsL.agg; (intro bk hbk; simp only [AllLe, and_true] at hbk)
    apply oas; rfl; rfl
    apply OL.nx
    apply W.seq
    apply W.sr
    apply ofa; rfl; rfl; rfl
    apply old; rfl; rfl; exact .head _; rfl; rfl
    apply obn; rfl; rfl; rfl; apply Bin.eql
    apply omv; rfl; rfl
    apply ono; rfl; rfl; rfl; apply Pev.fld; rfl; exact yes; rfl
    apply ono; rfl; rfl; rfl; apply Pev.load_blk; rfl; exact fun h => h; exact .head _; rfl; rfl
    apply ono; rfl; rfl; rfl; apply Pev.bin; rfl; exact fun h => h; rfl; exact yes; intro hcond; apply Bin.eql
    apply oop; rfl; apply Pev.pick_or; rfl; exact yes; rfl; exact fun h => h
    apply omv; rfl; rfl
    apply ono; rfl; rfl; rfl; apply Pev.fld; rfl; exact yes; rfl
    apply ono; rfl; rfl; rfl; apply Pev.load_blk; rfl; exact fun h => h; exact .head _; rfl; rfl
    apply ono; rfl; rfl; rfl; apply Pev.bin; rfl; exact fun h => h; rfl; exact yes; intro hcond; apply Bin.eql
    apply ono; rfl; rfl; rfl; apply Pev.move; rfl; exact fun h => h
    apply OL.op; exact Guard.cyes rfl rfl; rfl; rfl; apply Pev.move; rfl; exact yes
    apply OL.op; exact Guard.cyes rfl rfl; rfl; rfl; apply Pev.bin; rfl; exact fun h => h; rfl; exact yes; intro hcond; apply Bin.eql
    apply ono; rfl; rfl; rfl; apply Pev.pick_and; rfl; exact fun h => h; rfl; exact fun h => h
    apply oop; rfl; apply Pev.pick_or; rfl; exact yes; rfl; exact fun h => h
    apply OL.nx
    refine W.cond rfl (fun hb => by grind) (fun hb => ?_)
    apply W.sk
    apply W.seq
    apply W.sr
    apply ofa; rfl; rfl; rfl
    apply old; rfl; rfl; exact .head _; rfl; rfl
    apply obn; rfl; rfl; rfl; apply Bin.eql
    apply omv; rfl; rfl
    apply ono; rfl; rfl; rfl; apply Pev.fld; rfl; exact yes; rfl
    apply ono; rfl; rfl; rfl; apply Pev.load_blk; rfl; exact fun h => h; exact .head _; rfl; rfl
    apply ono; rfl; rfl; rfl; apply Pev.bin; rfl; exact fun h => h; rfl; exact yes; intro hcond; apply Bin.eql
    apply oop; rfl; apply Pev.pick_or; rfl; exact yes; rfl; exact fun h => h
    apply omv; rfl; rfl
    apply oy; rfl; rfl; rfl; apply Pev.move; rfl; exact yes
    apply oy; rfl; rfl; rfl; apply Pev.bin; rfl; exact fun h => h; rfl; exact yes; intro hcond; apply Bin.gtr
    apply oop; rfl; apply Pev.pick_and; rfl; exact yes; rfl; exact fun h => h
    apply OL.nx
    refine W.cond rfl (fun hb2 => by grind) (fun hb2 => ?_)
    apply W.sk
    apply W.sr
    apply oas; rfl; rfl
    apply OL.nx
    apply W.ret
    ((with_reducible apply At.fin1); rfl; rfl; intro w' hw')
    exact ⟨rfl, by (exact hw'.fr)⟩
theorem Binds_calls (x : Ex) (y : ExY) (w : World) (h : ExOk w (low w) x y) (hl : x.binds.length ≤ 16) (hall : x.alts.length ≤ 4096) (hab : ∀ a ∈ x.alts, a.binds.length ≤ 16) :
    Calls Tryd.prog 57 [.agg (exC x y).toArray].toArray w fun e w' => ∃ q c, e = .returned (.slice q (bindersX x).length c) ∧ Ext w w' ∧ IntsO w' (fresh w w') (bindersX x) q ∧ (bindersX x).length ≤ c := by
  obtain ⟨ps, hps, harr⟩ := h.alts
  have hpl : x.alts.length = ps.length := by rw [← hps, List.length_map]
  refine enter Tryd.func57 rfl Tryd.ntmps57 rfl (Cls.start w) ?_
  (simp only [argEnv, Nat.zero_add, Nat.reduceAdd])
  simp only [exC]
  apply W.sr
  apply OL.box; rfl; rfl; exact CellsL.agg; (intro bk hbk; simp only [AllLe, and_true] at hbk)
  apply oas; rfl; rfl
  apply OL.nsr
  apply oas; rfl; rfl
  apply OL.nx
  apply W.seq
  apply W.sr
  apply ofa; rfl; rfl; rfl
  apply old; rfl; rfl; exact .head _; rfl; rfl
  apply obn; rfl; rfl; rfl; apply Bin.eql
  apply omv; rfl; rfl
  apply ono; rfl; rfl; rfl; apply Pev.fld; rfl; exact yes; rfl
  apply ono; rfl; rfl; rfl; apply Pev.load_blk; rfl; exact fun h => h; exact .head _; rfl; rfl
  apply ono; rfl; rfl; rfl; apply Pev.bin; rfl; exact fun h => h; rfl; exact yes; intro hcond; apply Bin.eql
  apply oop; rfl; apply Pev.pick_or; rfl; exact yes; rfl; exact fun h => h
  apply omv; rfl; rfl
  apply ono; rfl; rfl; rfl; apply Pev.fld; rfl; exact yes; rfl
  apply ono; rfl; rfl; rfl; apply Pev.load_blk; rfl; exact fun h => h; exact .head _; rfl; rfl
  apply ono; rfl; rfl; rfl; apply Pev.bin; rfl; exact fun h => h; rfl; exact yes; intro hcond; apply Bin.eql
  apply oop; rfl; apply Pev.pick_or; rfl; exact yes; rfl; exact fun h => h
  apply OL.nx
  refine W.cls (fun w' hw' => hw'.row_nil w.heap.size 3 1) ?_
  refine W.joinx (G := GR) (fun _ => True) (fun g => [(1, true, .pointer (some ⟨bk, 0, none⟩)), (3, true, .slice g.q (if x.op = 2 ∨ x.op = 4 ∨ x.op = 5 then x.binds else []).length g.c)]) (fun g => Cls [row w.heap.size g.O g.q (if x.op = 2 ∨ x.op = 4 ∨ x.op = 5 then x.binds else []).length g.c 3 1 (ints (if x.op = 2 ∨ x.op = 4 ∨ x.op = 5 then x.binds else [])), blk bk 28 [.int .i64 x.op, .int .i64 x.n, .slice y.b.1 x.binds.length y.b.2, .slice y.k.1 x.kids.length y.k.2, .slice y.a.1 x.alts.length y.a.2]] [w]) ?_ ?_
  · refine W.cond rfl (fun hb => ?_) (fun hb => ?_)
    · have hop : x.op = 2 ∨ x.op = 4 ∨ x.op = 5 := by grind
      rw [if_pos hop]
      apply W.reg
      apply omv; rfl; rfl
      apply ofa; rfl; rfl; rfl
      apply old; rfl; rfl; exact .tail _ (.head _); rfl; rfl
      (apply OL.appendK (news := ints x.binds)); rfl; rfl; rfl; rfl; (exact Hole.au); (exact fun w2 hw2 => (h.b.at hw2 (.head _) (fun k hk => by exact NotOwned.au)).slAt); (rw [ints_length, Nat.mul_one]); (exact ints_oneL _); (exact ⟨w, .head _, Nat.le_refl _⟩); (omega); (intro O1 q1 c1)
      simp only [Nat.zero_add, List.nil_append]
      apply oas; rfl; rfl
      apply OL.nil
      exact At.joinedx ⟨O1, q1, c1⟩ trivial (by exact Sub.au) (fun w' hw' => hw')
    · have hop : ¬ (x.op = 2 ∨ x.op = 4 ∨ x.op = 5) := by grind
      rw [if_neg hop]
      apply W.skip
      exact At.joinedx ⟨_, none, 0⟩ trivial (by exact Sub.au) (fun w' hw' => hw')
  rintro ⟨O0, q0, c0⟩ -
  simp only
  have hL0l : (if x.op = 2 ∨ x.op = 4 ∨ x.op = 5 then x.binds else []).length ≤ 16 := by split <;> simp [hl]
  unfold bindersX
  generalize (if x.op = 2 ∨ x.op = 4 ∨ x.op = 5 then x.binds else []) = L0 at *
  have habp : ∀ p ∈ ps, p.1.binds.length ≤ 16 := fun p hp => hab p.1 (by rw [← hps]; exact List.mem_map_of_mem hp)
  have hfl : ∀ i, ((ps.take i).flatMap fun p => p.1.binds).length ≤ 65536 := fun i => by
    have h1 := flat_len (l := x.alts.take i) fun a ha => hab a (List.mem_of_mem_take ha)
    have h3 : (x.alts.take i).flatMap Al.binds = (ps.take i).flatMap fun p => p.1.binds := by
      rw [← hps, ← List.map_take, List.flatMap_map]
    rw [h3] at h1
    simp only [List.length_take] at h1
    omega
  have hall2 : x.alts.flatMap Al.binds = ps.flatMap fun p => p.1.binds := by rw [← hps, List.flatMap_map]
  rw [hall2]
  simp only [hpl] at *
  apply W.seq
  apply W.sr
  apply ofa; rfl; rfl; rfl
  apply old; rfl; rfl; exact .tail _ (.head _); rfl; rfl
  apply oop; rfl; apply Pev.len_slice; rfl; exact yes; rfl
  apply omv; rfl; rfl
  apply OL.nx
  apply W.block
  refine W.loop (G := Nat × GR) (fun g => g.1 ≤ ps.length) (fun g => ps.length - g.1)
    (fun g => [(3, true, .slice g.2.q (L0 ++ (ps.take g.1).flatMap fun p => p.1.binds).length g.2.c), (24, true, .slice y.a.1 ps.length y.a.2), (25, true, .int .i64 (ps.length : Int)), (26, true, .int .i64 (g.1 : Int))])
    (fun g => Cls [row w.heap.size g.2.O g.2.q (L0 ++ (ps.take g.1).flatMap fun p => p.1.binds).length g.2.c 3 1 (ints (L0 ++ (ps.take g.1).flatMap fun p => p.1.binds))] [w]) (0, ⟨O0, q0, c0⟩) (by simp) (by simp only [List.take_zero, List.flatMap_nil, List.append_nil]; exact Sub.au) (fun w' hw' => by simpa using hw'.thin (by exact Thin.au)) ?_
  rintro ⟨i, ⟨O1, q1, c1⟩⟩ hi
  simp only at hi ⊢
  apply W.sr
  apply obn; rfl; rfl; rfl; apply Bin.lss
  apply OL.nx
  apply W.seq
  (refine W.cnd (fun hlt => ?_) (fun hlt => ?_)) <;> (try (exfalso; first | omega | exact hlt trivial | contradiction))
  · have hil : i < ps.length := by omega
    obtain ⟨a, u, hq, hab1, hu, hcell, hok⟩ := harr.get hil
    have hab1 : a.block < w.heap.size := hab1
    have hcell : CellsAt w (a.add (i * 2)) [.int .i64 u.1.tag, .slice u.2.1 u.1.binds.length u.2.2] := hcell
    have hub := habp u (List.mem_of_getElem? hu)
    have hi1 := hfl i
    have hsnoc : (L0 ++ (ps.take (i + 1)).flatMap fun p => p.1.binds) = (L0 ++ (ps.take i).flatMap fun p => p.1.binds) ++ u.1.binds := by
      rw [List.take_add_one, hu]
      simp
    have hll : (L0 ++ (ps.take i).flatMap fun p => p.1.binds).length ≤ 65552 := by rw [List.length_append]; omega
    rw [hq]
    apply W.sk
    apply W.sb
    apply W.sr
    apply oop; rfl; apply Pev.idx; rfl; exact yes; rfl; exact yes; rfl; rfl; intro hcond; omega
    apply oop; rfl; apply Pev.load_keptA; rfl; exact yes; exact .head _; rfl; intro hcond; assumption; rfl; intro hcond; (rw [add_block]; assumption); intro hcond; exact NotOwned.au
    apply OL.alloc; rfl; rfl; exact CellsL.agg; (intro bk hbk; simp only [AllLe, and_true] at hbk)
    apply OL.storeB; rfl; rfl; exact CellsL.agg; rfl; rfl; rfl; exact Swap.au; exact Put.au
    apply OL.nx
    apply W.reg
    apply omv; rfl; rfl
    apply ofa; rfl; rfl; rfl
    apply old; rfl; rfl; exact .head _; rfl; rfl
    (apply OL.appendK (news := ints u.1.binds)); rfl; rfl; rfl; rfl; (exact Hole.au); (exact fun w2 hw2 => (hok.2.2.at hw2 (.head _) (fun k hk => by exact NotOwned.au)).slAt); (rw [ints_length, Nat.mul_one]); (exact ints_oneL _); (exact ⟨w, .head _, Nat.le_refl _⟩); (omega); (intro O2 q2 c2)
    rw [← ints_append, ← hsnoc, ← List.length_append, ← hsnoc]
    apply oas; rfl; rfl
    apply OL.nil
    with_reducible apply At.in_normal
    with_reducible apply At.next
    apply W.reg
    apply obn; rfl; rfl; rfl; apply Bin.add_in; omega
    apply omv; rfl; rfl
    apply OL.nil
    refine At.again (i + 1, ⟨O2, q2, c2⟩) (by simp only; omega) (by simp only; omega) (by exact Sub.au) (fun w' hw' => hw'.thin (by exact Thin.au))
  · obtain rfl : i = ps.length := by omega
    rw [List.take_length]
    refine W.xt ?_
    with_reducible apply At.next
    apply W.sr
    apply omv; rfl; rfl
    apply oas; rfl; rfl
    apply OL.nx
    apply W.ret
    ((with_reducible apply At.fin1); rfl; rfl; intro w' hw')
    exact ⟨_, _, rfl, by (exact hw'.fr), rowInts hw' (.head _) (Nat.le_refl _), row_cap (hw'.item (.head _))⟩
end Go.Proofs.YtlboppiogeaicaaDoor.co

/- The walks of the reference's parentsOf, Depth and binder. Conditions: none. -/
namespace Go.Co
open Go.Eng Go.RowKit
set_option linter.unusedVariables false
set_option linter.unusedSimpArgs false
/-- the list of the parents while it is set to -1 -/
def neg1 (n i : Nat) : List Int := List.replicate i (-1) ++ List.replicate (n - i) 0
theorem neg1_length {n i : Nat} (h : i ≤ n) : (neg1 n i).length = n := by simp [neg1]; omega
theorem neg1_zero (n : Nat) : List.replicate n (Value.int .i64 0) = ints (neg1 n 0) := by simp [neg1, ints]
theorem neg1_end (n : Nat) : neg1 n n = List.replicate n (-1) := by simp [neg1]
theorem neg1_set {n i : Nat} (h : i < n) : (neg1 n i).set i (-1) = neg1 n (i + 1) := by
  refine List.ext_getElem? fun k => ?_
  rw [List.getElem?_set]
  have hl1 := neg1_length (n := n) (i := i) (by omega)
  have hl2 := neg1_length (n := n) (i := i + 1) (by omega)
  by_cases e : i = k
  · subst e
    rw [if_pos rfl, if_pos (by omega)]
    unfold neg1
    rw [List.getElem?_append_left (by simp)]
    simp [List.getElem?_replicate]
  · rw [if_neg e]
    unfold neg1
    by_cases h1 : k < i
    · rw [List.getElem?_append_left (by simpa using h1), List.getElem?_append_left (by simp; omega)]
      simp [List.getElem?_replicate, h1, show k < i + 1 by omega]
    · rw [List.getElem?_append_right (by simp; omega), List.getElem?_append_right (by simp; omega)]
      simp only [List.getElem?_replicate, List.length_replicate]
      by_cases h2 : k < n
      · rw [if_pos (by omega), if_pos (by omega)]
      · rw [if_neg (by omega), if_neg (by omega)]
end Go.Co
namespace Go.Proofs.YtlboppiogeaicaaDoor.co
open Go.RowKit Go.Eng Go.Co
set_option linter.unusedVariables false
set_option linter.unusedSimpArgs false
set_option maxRecDepth 100000
theorem parentsOf_calls (es : List (Ex × ExY)) (q : Option Addr) (cap : Nat) (w : World) (he : Arr exR w (low w) es q) (hlen : es.length ≤ 4096) :
    Calls Tryd.prog 45 [.slice q es.length cap].toArray w fun e w' => ∃ q' n c b, e = .returned (.tuple #[.slice q' n c, .bool b]) ∧ Ext w w' ∧ (b = true ↔ TreeP (es.map Prod.fst)) ∧ (b = true → n = es.length ∧ ∃ P, Parents (es.map Prod.fst) P ∧ IntsO w' (low w') P q') := by
  obtain ⟨e, hee⟩ : ∃ e, es.map Prod.fst = e := ⟨_, rfl⟩
  have hel : e.length = es.length := by rw [← hee, List.length_map]
  rw [hee]
  have hget : ∀ {i : Nat}, i < es.length → ∃ a p, q = some a ∧ a.block < w.heap.size ∧ es[i]? = some p ∧ e[i]? = some p.1 ∧ CellsAt w (a.add (i * 5)) [.int .i64 p.1.op, .int .i64 p.1.n, .slice p.2.b.1 p.1.binds.length p.2.b.2, .slice p.2.k.1 p.1.kids.length p.2.k.2, .slice p.2.a.1 p.1.alts.length p.2.a.2] ∧ ExOk w (low w) p.1 p.2 := fun {i} hi => by
    obtain ⟨a, p, h1, h2, h3, h4, h5⟩ := he.get hi
    exact ⟨a, p, h1, h2, h3, by rw [← hee, List.getElem?_map, h3]; rfl, h4, h5⟩
  refine enter Tryd.func45 rfl Tryd.ntmps45 rfl (Cls.start w) ?_
  (simp only [argEnv, Nat.zero_add, Nat.reduceAdd])
  apply W.sr
  apply oas; rfl; rfl
  apply oas; rfl; rfl
  apply OL.nsr
  apply omv; rfl; rfl
  apply oop; rfl; apply Pev.len_slice; rfl; exact yes; rfl
  apply OL.makeSlice; rfl; rfl; rfl; rfl; rfl; rfl; rfl; omega; (intro bk hbk; simp only [AllLe, and_true] at hbk)
  apply oas; rfl; rfl
  apply OL.nx
  apply W.seq
  apply W.sr
  apply omv; rfl; rfl
  apply oop; rfl; apply Pev.len_slice; rfl; exact yes; rfl
  apply omv; rfl; rfl
  apply OL.nx
  apply W.block
  revert bk
  intro bp hbp
  refine W.loop (G := Nat) (fun i => i ≤ es.length) (fun i => es.length - i)
    (fun i => [(0, true, .slice q es.length cap), (4, true, .slice (some ⟨bp, 0, none⟩) es.length es.length), (15, true, .int .i64 (es.length : Int)), (16, true, .int .i64 (i : Int))])
    (fun i => Cls [blk bp 3 (ints (neg1 es.length i))] [w]) 0 (by omega) (by exact Sub.au) (fun w' hw' => by rw [← neg1_zero]; exact hw') ?_
  rintro i hi
  apply W.sr
  apply obn; rfl; rfl; rfl; apply Bin.lss
  apply OL.nx
  apply W.seq
  (refine W.cnd (fun hlt => ?_) (fun hlt => ?_)) <;> (try (exfalso; first | omega | exact hlt trivial | contradiction))
  · have hil : i < es.length := by omega
    apply W.sk
    apply W.sb
    apply W.sr
    apply omv; rfl; rfl
    apply oas; rfl; rfl
    apply OL.nx
    apply W.reg
    apply omv; rfl; rfl
    apply omv; rfl; rfl
    apply oop; rfl; apply Pev.idxB; rfl; exact yes; rfl; exact yes; rfl; intro hcond; omega; rfl
    (apply OL.storeI); rfl; rfl; rfl; rfl; rfl; (exact Swap.au); (rw [ints_length, neg1_length hi]; omega)
    have hset : (ints (neg1 es.length i)).set (0 + (i : Int).toNat * 1) (.int .i64 (-1)) = ints (neg1 es.length (i + 1)) := by
      rw [show 0 + (i : Int).toNat * 1 = i by simp, ints_set, neg1_set hil]
    rw [hset]
    apply OL.nil
    with_reducible apply At.in_normal
    with_reducible apply At.next
    apply W.reg
    apply obn; rfl; rfl; rfl; apply Bin.add_in; omega
    apply omv; rfl; rfl
    apply OL.nil
    exact At.again (i + 1) (by omega) (by omega) (by exact Sub.au) (fun w' hw' => hw')
  obtain rfl : i = es.length := by omega
  rw [neg1_end]
  refine W.xt ?_
  with_reducible apply At.next
  apply W.seq
  apply W.sr
  apply omv; rfl; rfl
  apply oop; rfl; apply Pev.len_slice; rfl; exact yes; rfl
  apply omv; rfl; rfl
  apply OL.nx
  apply W.block
  refine W.loop (G := Nat × List Int) (fun g => g.1 ≤ es.length ∧ PI e g.2 g.1 0) (fun g => es.length - g.1)
    (fun g => [(0, true, .slice q es.length cap), (4, true, .slice (some ⟨bp, 0, none⟩) es.length es.length), (23, true, .slice q es.length cap), (24, true, .int .i64 (es.length : Int)), (25, true, .int .i64 (g.1 : Int))])
    (fun g => Cls [blk bp 3 (ints g.2)] [w]) (0, List.replicate es.length (-1)) ⟨by simp, by rw [← hel]; exact PI.start e⟩ (by exact Sub.au) (fun w' hw' => hw') ?_
  rintro ⟨i, P⟩ ⟨hi, hP⟩
  simp only at hi hP ⊢
  apply W.sr
  apply obn; rfl; rfl; rfl; apply Bin.lss
  apply OL.nx
  apply W.seq
  (refine W.cnd (fun hlt2 => ?_) (fun hlt2 => ?_)) <;> (try (exfalso; first | omega | exact hlt2 trivial | contradiction))
  · have hil : i < es.length := by omega
    obtain ⟨a, p, rfl, hab, hp, hpe, hcell, hok⟩ := hget hil
    have hkl := hok.kl
    apply W.sk
    apply W.sb
    apply W.sr
    apply omv; rfl; rfl
    apply oop; rfl; apply Pev.idx; rfl; exact yes; rfl; exact yes; rfl; rfl; intro hcond; omega
    apply oop; rfl; apply Pev.load_keptA; rfl; exact yes; exact .head _; rfl; intro hcond; assumption; rfl; intro hcond; (rw [add_block]; assumption); intro hcond; exact NotOwned.au
    apply OL.alloc; rfl; rfl; exact CellsL.agg; (intro bk hbk; simp only [AllLe, and_true] at hbk)
    apply oas; rfl; rfl
    apply OL.storeB; rfl; rfl; exact CellsL.agg; rfl; rfl; rfl; exact Swap.au; exact Put.au
    apply OL.nsr
    apply ofa; rfl; rfl; rfl
    apply old; rfl; rfl; exact .head _; rfl; rfl
    apply oop; rfl; apply Pev.len_slice; rfl; exact yes; rfl
    apply omv; rfl; rfl
    apply OL.nx
    apply W.block
    revert bk
    intro bx hbx
    skip
    refine W.loop (G := Nat × List Int) (fun g => g.1 ≤ p.1.kids.length ∧ PI e g.2 i g.1 ∧ ∀ (m : Nat) (k : Int), m < g.1 → p.1.kids[m]? = some k → 0 ≤ k ∧ k < (i : Int)) (fun g => p.1.kids.length - g.1)
      (fun g => [(0, true, .slice (some a) es.length cap), (4, true, .slice (some ⟨bp, 0, none⟩) es.length es.length), (6, true, .int .i64 (i : Int)), (23, true, .slice (some a) es.length cap), (24, true, .int .i64 (es.length : Int)), (25, true, .int .i64 (i : Int)), (31, true, .slice p.2.k.1 p.1.kids.length p.2.k.2), (32, true, .int .i64 (p.1.kids.length : Int)), (33, true, .int .i64 (g.1 : Int))])
      (fun g => Cls [blk bp 3 (ints g.2)] [w]) (0, P) ⟨by simp, hP, fun m k hm => by simp at hm⟩ (by exact Sub.au) (fun w' hw' => hw'.thin (by exact Thin.au)) ?_
    rintro ⟨j, P2⟩ ⟨hj, hP2, hks⟩
    simp only at hj hP2 hks ⊢
    have hPl : P2.length = es.length := by rw [hP2.len, hel]
    apply W.sr
    apply obn; rfl; rfl; rfl; apply Bin.lss
    apply OL.nx
    apply W.seq
    (refine W.cnd (fun hlt3 => ?_) (fun hlt3 => ?_)) <;> (try (exfalso; first | omega | exact hlt3 trivial | contradiction))
    · have hjl : j < p.1.kids.length := by omega
      obtain ⟨ak, k, hqk, habk, hk, hck⟩ := hok.k.get hjl
      have habk : ak.block < w.heap.size := habk
      rw [hqk]
      apply W.sk
      apply W.sb
      apply W.sr
      apply oop; rfl; apply Pev.idx; rfl; exact yes; rfl; exact yes; rfl; rfl; intro hcond; omega
      apply oop; rfl; apply Pev.load_kept; rfl; exact yes; exact .head _; rfl; intro hcond; assumption; intro hcond; (rw [add_block]; assumption); intro hcond; exact NotOwned.au
      apply oas; rfl; rfl
      apply OL.nx
      apply W.seq
      apply W.sr
      apply omv; rfl; rfl
      apply obn; rfl; rfl; rfl; apply Bin.lss
      apply omv; rfl; rfl
      apply ono; rfl; rfl; rfl; apply Pev.move; rfl; exact yes
      apply ono; rfl; rfl; rfl; apply Pev.move; rfl; exact yes
      apply ono; rfl; rfl; rfl; apply Pev.bin; rfl; exact fun h => h; rfl; exact fun h => h; intro hcond; apply Bin.geq
      apply oop; rfl; apply Pev.pick_or; rfl; exact yes; rfl; exact fun h => h
      apply omv; rfl; rfl
      apply ono; rfl; rfl; rfl; apply Pev.move; rfl; exact yes
      apply ono; rfl; rfl; rfl; apply Pev.move; rfl; exact yes
      by_cases hkr : k < 0 ∨ (i : Int) ≤ k
      · apply OL.gateOff; exact Guard.no rfl rfl; (simp; omega); rfl
        apply OL.gateOff; exact Guard.no rfl rfl; (simp; omega); rfl
        apply OL.gateOff; exact Guard.no rfl rfl; (simp; omega); rfl
        apply oop; rfl; apply Pev.pick_on; rfl; exact yes; (intro hcond; simp; omega); rfl; exact yes
        apply OL.nx
        refine W.cond rfl (fun hb => ?_) (fun hb => by grind)
        apply W.sr
        apply oas; rfl; rfl
        apply oas; rfl; rfl
        apply OL.nx
        refine W.rt ?_
        ((with_reducible apply At.fin2); rfl; rfl; rfl; intro w' hw')
        refine ⟨none, 0, 0, false, rfl, by (exact hw'.fr), ⟨fun h => (by cases h), fun hg => ?_⟩, fun h => (by cases h)⟩
        have := hg.2.1 i _ hpe k (List.mem_of_getElem? hk)
        omega
      · obtain ⟨kn, rfl⟩ : ∃ kn : Nat, k = (kn : Int) := ⟨k.toNat, by omega⟩
        have hki : kn < i := by omega
        obtain ⟨v, hv⟩ : ∃ v, P2[kn]? = some v := ⟨_, List.getElem?_eq_getElem (by omega)⟩
        have hpk : (ints P2)[0 + (kn : Int).toNat * 1]? = some (.int .i64 v) := by
          have h1 := ints_get hv
          simpa using h1
        apply ono; rfl; rfl; rfl; apply Pev.idxB; rfl; exact fun h => h; rfl; exact fun h => h; rfl; intro hcond; omega; rfl
        apply ono; rfl; rfl; rfl; apply Pev.load_blk; rfl; exact fun h => h; exact .head _; rfl; assumption
        apply ono; rfl; rfl; rfl; apply Pev.bin; rfl; exact fun h => h; rfl; exact yes; intro hcond; apply Bin.geq
        apply oop; rfl; apply Pev.pick_or; rfl; exact yes; rfl; exact fun h => h
        apply OL.nx
        refine W.cond rfl (fun hb => ?_) (fun hb => ?_)
        · have hv0 : 0 ≤ v := by grind
          apply W.sr
          apply oas; rfl; rfl
          apply oas; rfl; rfl
          apply OL.nx
          refine W.rt ?_
          ((with_reducible apply At.fin2); rfl; rfl; rfl; intro w' hw')
          refine ⟨none, 0, 0, false, rfl, by (exact hw'.fr), ⟨fun h => (by cases h), fun hg => ?_⟩, fun h => (by cases h)⟩
          exact absurd hg (hP2.twice hpe hk (by omega) (by omega) (by simpa using hv) hv0)
        have hv0 : v < 0 := by grind
        apply W.sk
        apply W.reg
        apply omv; rfl; rfl
        apply omv; rfl; rfl
        apply omv; rfl; rfl
        apply oop; rfl; apply Pev.idxB; rfl; exact yes; rfl; exact yes; rfl; intro hcond; omega; rfl
        (apply OL.storeI); rfl; rfl; rfl; rfl; rfl; (exact Swap.au); (rw [ints_length]; omega)
        have hset : (ints P2).set (0 + (kn : Int).toNat * 1) (.int .i64 (i : Int)) = ints (P2.set kn (i : Int)) := by
          rw [show 0 + (kn : Int).toNat * 1 = kn by simp, ints_set]
        rw [hset]
        apply OL.nil
        with_reducible apply At.in_normal
        with_reducible apply At.next
        apply W.reg
        apply obn; rfl; rfl; rfl; apply Bin.add_in; omega
        apply omv; rfl; rfl
        apply OL.nil
        refine At.again (j + 1, P2.set kn (i : Int)) ⟨by simp only; omega, hP2.step hpe hk (by omega) (by omega) (by simpa using hv) hv0, fun m k2 hm hk2 => ?_⟩ (by simp only; omega) (by exact Sub.au) (fun w' hw' => by first | exact hw' | exact hw'.thin (by exact Thin.au))
        by_cases em : m = j
        · subst em
          rw [hk] at hk2
          obtain rfl := Option.some.inj hk2
          omega
        · exact hks m k2 (by simp only at hm; omega) hk2
    · obtain rfl : j = p.1.kids.length := by omega
      have hkall2 : ∀ k ∈ p.1.kids, 0 ≤ k ∧ k < (i : Int) := fun k hk => by
        obtain ⟨m, hm⟩ := List.getElem?_of_mem hk
        exact hks m k (List.getElem?_eq_some_iff.1 hm).1 hm
      refine W.xt ?_
      with_reducible apply At.in_normal
      with_reducible apply At.next
      apply W.reg
      apply obn; rfl; rfl; rfl; apply Bin.add_in; omega
      apply omv; rfl; rfl
      apply OL.nil
      exact At.again (i + 1, P2) ⟨by simp only; omega, hP2.next hpe hkall2⟩ (by simp only; omega) (by exact Sub.au) (fun w' hw' => hw')
  · obtain rfl : i = es.length := by omega
    have hP' : PI e P e.length 0 := by rw [hel]; exact hP
    have hPl : P.length = es.length := by rw [hP.len, hel]
    refine W.xt ?_
    with_reducible apply At.next
    apply W.seq
    apply W.sr
    apply omv; rfl; rfl
    apply oop; rfl; apply Pev.len_slice; rfl; exact yes; rfl
    apply obn; rfl; rfl; rfl; apply Bin.sub_in; omega
    apply omv; rfl; rfl
    apply OL.nx
    apply W.block
    refine W.loop (G := Nat) (fun i => (i : Int) ≤ max ((es.length : Int) - 1) 0 ∧ ∀ (k : Nat) (v : Int), k < i → P[k]? = some v → 0 ≤ v) (fun i => es.length - i)
      (fun i => [(0, true, .slice q es.length cap), (4, true, .slice (some ⟨bp, 0, none⟩) es.length es.length), (59, true, .int .i64 ((es.length : Int) - 1)), (60, true, .int .i64 (i : Int))])
      (fun _ => Cls [blk bp 3 (ints P)] [w]) 0 ⟨by omega, fun k v hk => by omega⟩ (by exact Sub.au) (fun w' hw' => hw') ?_
    rintro i ⟨hi, hall⟩
    apply W.sr
    apply obn; rfl; rfl; rfl; apply Bin.lss
    apply OL.nx
    apply W.seq
    (refine W.cnd (fun hlt3 => ?_) (fun hlt3 => ?_)) <;> (try (exfalso; first | omega | exact hlt3 trivial | contradiction))
    · have hil : i + 1 < es.length := by omega
      obtain ⟨v, hv⟩ : ∃ v, P[i]? = some v := ⟨_, List.getElem?_eq_getElem (by omega)⟩
      have hpi : (ints P)[0 + (i : Int).toNat * 1]? = some (.int .i64 v) := by
        have h1 := ints_get hv
        simpa using h1
      apply W.sk
      apply W.sb
      apply W.sr
      apply omv; rfl; rfl
      apply oas; rfl; rfl
      apply OL.nsr
      apply omv; rfl; rfl
      apply omv; rfl; rfl
      apply oop; rfl; apply Pev.idxB; rfl; exact yes; rfl; exact yes; rfl; intro hcond; omega; rfl
      apply oop; rfl; apply Pev.load_blk; rfl; exact yes; exact .head _; rfl; assumption
      apply obn; rfl; rfl; rfl; apply Bin.lss
      apply OL.nx
      (refine W.cnd (fun hneg => ?_) (fun hneg => ?_)) <;> (try (exfalso; first | omega | exact hneg trivial | contradiction))
      · apply W.sr
        apply oas; rfl; rfl
        apply oas; rfl; rfl
        apply OL.nx
        refine W.rt ?_
        ((with_reducible apply At.fin2); rfl; rfl; rfl; intro w' hw')
        refine ⟨none, 0, 0, false, rfl, by (exact hw'.fr), ⟨fun h => (by cases h), fun hg => ?_⟩, fun h => (by cases h)⟩
        exact absurd hg (hP'.bad (by omega) hv hneg)
      apply W.skip
      with_reducible apply At.in_normal
      with_reducible apply At.next
      apply W.reg
      apply obn; rfl; rfl; rfl; apply Bin.add_in; omega
      apply omv; rfl; rfl
      apply OL.nil
      refine At.again (i + 1) ⟨by omega, fun k u hk hu => ?_⟩ (by omega) (by exact Sub.au) (fun w' hw' => hw')
      by_cases em : k = i
      · subst em
        rw [hv] at hu
        obtain rfl := Option.some.inj hu
        omega
      · exact hall k u (by omega) hu
    · refine W.xt ?_
      with_reducible apply At.next
      apply W.sr
      apply omv; rfl; rfl
      apply omv; rfl; rfl
      apply oop; rfl; apply Pev.len_slice; rfl; exact yes; rfl
      apply obn; rfl; rfl; rfl; apply Bin.gtr
      apply oas; rfl; rfl
      apply oas; rfl; rfl
      apply OL.nx
      apply W.ret
      ((with_reducible apply At.fin2); rfl; rfl; rfl; intro w' hw')
      have hgood : 0 < es.length → TreeP e := fun h0 => hP'.good (by omega) fun k v hk hv => hall k v (by omega) hv
      refine ⟨some ⟨bp, 0, none⟩, es.length, es.length, _, rfl, by (exact hw'.fr), ⟨fun h => hgood (by have := of_decide_eq_true h; omega), fun hg => decide_eq_true (by have := hg.1; omega)⟩, fun h => ⟨rfl, P, hP'.parents (hgood (by have := of_decide_eq_true h; omega)), fun hl => ?_⟩⟩
      have hb : (blk bp 3 (ints P)).holds w' := hw'.item (.head _)
      refine ⟨⟨bp, 0, none⟩, rfl, blk_lt hb, fun j v hj => ?_⟩
      rw [add_mid, blk_cell hb, Nat.zero_add]
      exact hj
end Go.Proofs.YtlboppiogeaicaaDoor.co

/- The walks of the reference's goodForm and goodKids. Conditions: none. (Printed by crc.py.) The walks of the reference's Depth and binder. Conditions: none. The walks of the reference's BodyFault and Fault. Conditions: none. -/
namespace Go.Proofs.YtlboppiogeaicaaDoor.co
open Go.RowKit Go.Eng Go.Co
set_option linter.unusedVariables false
set_option linter.unusedSimpArgs false
set_option maxRecDepth 100000
theorem goodForm_calls (es : List (Ex × ExY)) (q : Option Addr) (cap : Nat) (x : Ex) (y : ExY) (flat : Bool) (w : World) (h : ExOk w (low w) x y) :
    Calls Tryd.prog 72 [.slice q es.length cap, .agg (exC x y).toArray, .bool flat].toArray w fun e w' => e = .returned (.bool (!flatBad flat x.op && formR x)) ∧ Ext w w' := by
  have hal := h.al
  have hkl := h.kl
  have hbl := h.bl
  refine enter Tryd.func72 rfl Tryd.ntmps72 rfl (Cls.start w) ?_
  (simp only [argEnv, Nat.zero_add, Nat.reduceAdd])
  simp only [exC]
  apply W.sr
  apply OL.box; rfl; rfl; exact CellsL.agg; (intro bk hbk; simp only [AllLe, and_true] at hbk)
  apply oas; rfl; rfl
  apply OL.nsr
  apply ofa; rfl; rfl; rfl
  apply old; rfl; rfl; exact .head _; rfl; rfl
  apply obn; rfl; rfl; rfl; apply Bin.eql
  apply omv; rfl; rfl
  apply ono; rfl; rfl; rfl; apply Pev.fld; rfl; exact yes; rfl
  apply ono; rfl; rfl; rfl; apply Pev.load_blk; rfl; exact fun h => h; exact .head _; rfl; rfl
  apply ono; rfl; rfl; rfl; apply Pev.bin; rfl; exact fun h => h; rfl; exact yes; intro hcond; apply Bin.eql
  apply oop; rfl; apply Pev.pick_or; rfl; exact yes; rfl; exact fun h => h
  apply omv; rfl; rfl
  apply ono; rfl; rfl; rfl; apply Pev.fld; rfl; exact yes; rfl
  apply ono; rfl; rfl; rfl; apply Pev.load_blk; rfl; exact fun h => h; exact .head _; rfl; rfl
  apply ono; rfl; rfl; rfl; apply Pev.bin; rfl; exact fun h => h; rfl; exact yes; intro hcond; apply Bin.eql
  apply oop; rfl; apply Pev.pick_or; rfl; exact yes; rfl; exact fun h => h
  apply oas; rfl; rfl
  apply OL.nsr
  apply ofa; rfl; rfl; rfl
  apply old; rfl; rfl; exact .head _; rfl; rfl
  apply obn; rfl; rfl; rfl; apply Bin.eql
  apply omv; rfl; rfl
  apply ono; rfl; rfl; rfl; apply Pev.fld; rfl; exact yes; rfl
  apply ono; rfl; rfl; rfl; apply Pev.load_blk; rfl; exact fun h => h; exact .head _; rfl; rfl
  apply ono; rfl; rfl; rfl; apply Pev.bin; rfl; exact fun h => h; rfl; exact yes; intro hcond; apply Bin.eql
  apply oop; rfl; apply Pev.pick_or; rfl; exact yes; rfl; exact fun h => h
  apply omv; rfl; rfl
  apply ono; rfl; rfl; rfl; apply Pev.fld; rfl; exact yes; rfl
  apply ono; rfl; rfl; rfl; apply Pev.load_blk; rfl; exact fun h => h; exact .head _; rfl; rfl
  apply ono; rfl; rfl; rfl; apply Pev.bin; rfl; exact fun h => h; rfl; exact yes; intro hcond; apply Bin.eql
  apply oop; rfl; apply Pev.pick_or; rfl; exact yes; rfl; exact fun h => h
  apply omv; rfl; rfl
  apply ono; rfl; rfl; rfl; apply Pev.fld; rfl; exact yes; rfl
  apply ono; rfl; rfl; rfl; apply Pev.load_blk; rfl; exact fun h => h; exact .head _; rfl; rfl
  apply ono; rfl; rfl; rfl; apply Pev.bin; rfl; exact fun h => h; rfl; exact yes; intro hcond; apply Bin.eql
  apply oop; rfl; apply Pev.pick_or; rfl; exact yes; rfl; exact fun h => h
  apply oas; rfl; rfl
  apply OL.nsr
  apply oop; rfl; apply Pev.load_blkA; rfl; exact yes; exact .head _; rfl; exact Take.au
  (((first | (with_reducible apply OL.op) | (with_reducible apply QL.op)); (exact Guard.au); rfl; rfl); (exact Pev.call rfl (by exact Args.au) (fun _ w2 hw2 => (kidsOf_calls x y w2 (h.at hw2 (by exact mau) (fun k hk => by exact NotOwned.au))).mono (fun e w3 h => ⟨h.1, hw2.ext h.2⟩))))
  apply omv; rfl; rfl
  apply oex; rfl; rfl; rfl
  apply oex; rfl; rfl; rfl
  apply oas; rfl; rfl
  apply oas; rfl; rfl
  apply OL.nx
  apply W.seq
  apply W.sr
  apply omv; rfl; rfl
  apply omv; rfl; rfl
  apply oy; rfl; rfl; rfl; apply Pev.move; rfl; exact yes
  apply oy; rfl; rfl; rfl; apply Pev.not; rfl; exact fun h => h
  apply oop; rfl; apply Pev.pick_and; rfl; exact yes; rfl; exact fun h => h
  apply omv; rfl; rfl
  apply ono; rfl; rfl; rfl; apply Pev.move; rfl; exact yes
  apply ono; rfl; rfl; rfl; apply Pev.move; rfl; exact fun h => h
  apply OL.op; exact Guard.cyes rfl rfl; rfl; rfl; apply Pev.move; rfl; exact yes
  apply ono; rfl; rfl; rfl; apply Pev.pick_and; rfl; exact fun h => h; rfl; exact fun h => h
  apply oop; rfl; apply Pev.pick_or; rfl; exact yes; rfl; exact fun h => h
  apply omv; rfl; rfl
  apply ono; rfl; rfl; rfl; apply Pev.move; rfl; exact yes
  apply ono; rfl; rfl; rfl; apply Pev.fld; rfl; exact yes; rfl
  apply ono; rfl; rfl; rfl; apply Pev.load_blk; rfl; exact fun h => h; exact .head _; rfl; rfl
  apply ono; rfl; rfl; rfl; apply Pev.len_slice; rfl; exact fun h => h; rfl
  apply ono; rfl; rfl; rfl; apply Pev.bin; rfl; exact fun h => h; rfl; exact fun h => h; intro hcond; apply Bin.neq
  apply oop; rfl; apply Pev.pick_or; rfl; exact yes; rfl; exact fun h => h
  apply omv; rfl; rfl
  apply ono; rfl; rfl; rfl; apply Pev.move; rfl; exact yes
  apply ono; rfl; rfl; rfl; apply Pev.not; rfl; exact fun h => h
  apply ono; rfl; rfl; rfl; apply Pev.move; rfl; exact fun h => h
  apply OL.op; exact Guard.cyes rfl rfl; rfl; rfl; apply Pev.fld; rfl; exact yes; rfl
  apply OL.op; exact Guard.cyes rfl rfl; rfl; rfl; apply Pev.load_blk; rfl; exact fun h => h; exact .head _; rfl; rfl
  apply OL.op; exact Guard.cyes rfl rfl; rfl; rfl; apply Pev.bin; rfl; exact fun h => h; rfl; exact yes; intro hcond; apply Bin.neq
  apply ono; rfl; rfl; rfl; apply Pev.pick_and; rfl; exact fun h => h; rfl; exact fun h => h
  apply oop; rfl; apply Pev.pick_or; rfl; exact yes; rfl; exact fun h => h
  apply omv; rfl; rfl
  apply ono; rfl; rfl; rfl; apply Pev.load_blkA; rfl; exact yes; exact .head _; rfl; exact Take.au
  (((first | (with_reducible apply OL.op) | (with_reducible apply QL.op)); (exact Guard.au); rfl; rfl); (exact Pev.call rfl (by exact Args.au) (fun _ w2 hw2 => (goodAlts_calls x y w2 (h.at hw2 (by exact mau) (fun k hk => by exact NotOwned.au))).mono (fun e w3 h => ⟨h.1, hw2.ext h.2⟩))))
  have hflat : flatBad flat x.op = (flat && (decide (x.op = 2) || decide (x.op = 5) || decide (x.op = 12) || decide (x.op = 13)) || !flat && (decide (x.op = 14) || decide (x.op = 15) || decide (x.op = 16))) := rfl
  have hform : formR x = (decide ((kidsR x).1 = (x.kids.length : Int)) && ((kidsR x).2 || decide (x.n = 0)) && altsR x && bindsR x) := rfl
  generalize kidsR x = kr at *
  obtain ⟨kn, ku⟩ := kr
  generalize altsR x = ar at *
  apply ono; rfl; rfl; rfl; apply Pev.not; rfl; exact fun h => h
  apply oop; rfl; apply Pev.pick_or; rfl; exact yes; rfl; exact fun h => h
  apply OL.nx
  refine W.cond rfl (fun hb => ?_) (fun hb => ?_)
  · apply W.sr
    apply oas; rfl; rfl
    apply OL.nx
    refine W.rt ?_
    ((with_reducible apply At.fin1); rfl; rfl; intro w' hw')
    refine ⟨congrArg (fun b => Ending.returned (Value.bool b)) ?_, by (exact hw'.fr)⟩
    rw [hflat, hform]
    cases flat <;> cases ku <;> cases ar <;> simp only [Bool.and_eq_true, Bool.and_eq_false_iff, Bool.or_eq_false_iff, Bool.not_eq_true', Bool.not_eq_false', decide_eq_true_eq, decide_eq_false_iff_not, Bool.or_eq_true, Bool.not_eq_true] at hb ⊢ <;> simp at hb ⊢ <;> grind
  have hrest : (!flatBad flat x.op && formR x) = bindsR x := by
    rw [hflat, hform]
    cases flat <;> cases ku <;> cases ar <;> simp only [Bool.and_eq_true, Bool.and_eq_false_iff, Bool.or_eq_false_iff, Bool.not_eq_true', Bool.not_eq_false', decide_eq_true_eq, decide_eq_false_iff_not, Bool.or_eq_true, Bool.not_eq_true] at hb <;> simp at hb ⊢ <;> grind
  rw [hrest]
  clear hrest hform hflat hb
  apply W.sk
  apply W.seq
  apply W.sr
  apply ofa; rfl; rfl; rfl
  apply old; rfl; rfl; exact .head _; rfl; rfl
  apply OL.nx
  apply W.block
  apply W.seq
  apply W.sr
  apply obn; rfl; rfl; rfl; apply Bin.eql
  apply oas; rfl; rfl
  apply OL.nx
  (refine W.cnd (fun c1 => ?_) (fun c1 => ?_)) <;> (try (exfalso; first | omega | exact c1 trivial | contradiction))
  · apply W.sk
    (refine W.cnd (fun c1b => ?_) (fun c1b => ?_)) <;> (try (exfalso; first | omega | exact c1b trivial | contradiction))
    apply W.sr
    apply oas; rfl; rfl
    apply OL.nx
    refine W.rt ?_
    ((with_reducible apply At.fin1); rfl; rfl; intro w' hw')
    exact ⟨by unfold bindsR; rw [if_pos (by omega)], by (exact hw'.fr)⟩
  apply W.reg
  apply obn; rfl; rfl; rfl; apply Bin.eql
  apply oas; rfl; rfl
  apply OL.nx
  (refine W.cnd (fun c2 => ?_) (fun c2 => ?_)) <;> (try (exfalso; first | omega | exact c2 trivial | contradiction))
  · apply W.sr
    apply oas; rfl; rfl
    apply OL.nx
    refine W.rt ?_
    ((with_reducible apply At.fin1); rfl; rfl; intro w' hw')
    exact ⟨by unfold bindsR; rw [if_pos (by omega)], by (exact hw'.fr)⟩
  apply W.sr
  apply obn; rfl; rfl; rfl; apply Bin.eql
  apply oas; rfl; rfl
  apply OL.nx
  (refine W.cnd (fun c3 => ?_) (fun c3 => ?_)) <;> (try (exfalso; first | omega | exact c3 trivial | contradiction))
  · apply W.sr
    apply ofa; rfl; rfl; rfl
    apply old; rfl; rfl; exact .head _; rfl; rfl
    apply oop; rfl; apply Pev.len_slice; rfl; exact yes; rfl
    apply obn; rfl; rfl; rfl; apply Bin.eql
    apply oas; rfl; rfl
    apply OL.nx
    refine W.rt ?_
    ((with_reducible apply At.fin1); rfl; rfl; intro w' hw')
    refine ⟨congrArg (fun b => Ending.returned (Value.bool b)) ?_, by (exact hw'.fr)⟩
    unfold bindsR
    rw [if_neg (by omega), if_pos (by omega)]
    grind
  apply W.sr
  apply obn; rfl; rfl; rfl; apply Bin.eql
  apply oas; rfl; rfl
  apply OL.nx
  (refine W.cnd (fun c4 => ?_) (fun c4 => ?_)) <;> (try (exfalso; first | omega | exact c4 trivial | contradiction))
  · apply W.sr
    apply ofa; rfl; rfl; rfl
    apply old; rfl; rfl; exact .head _; rfl; rfl
    apply oop; rfl; apply Pev.len_slice; rfl; exact yes; rfl
    apply obn; rfl; rfl; rfl; apply Bin.gtr
    apply oas; rfl; rfl
    apply OL.nx
    refine W.rt ?_
    ((with_reducible apply At.fin1); rfl; rfl; intro w' hw')
    refine ⟨congrArg (fun b => Ending.returned (Value.bool b)) ?_, by (exact hw'.fr)⟩
    unfold bindsR
    rw [if_neg (by omega), if_neg (by omega), if_pos (by omega)]
    grind
  apply W.skip
  with_reducible apply At.in_normal
  with_reducible apply At.next
  apply W.sr
  apply ofa; rfl; rfl; rfl
  apply old; rfl; rfl; exact .head _; rfl; rfl
  apply oop; rfl; apply Pev.len_slice; rfl; exact yes; rfl
  apply obn; rfl; rfl; rfl; apply Bin.eql
  apply oas; rfl; rfl
  apply OL.nx
  apply W.ret
  ((with_reducible apply At.fin1); rfl; rfl; intro w' hw')
  refine ⟨congrArg (fun b => Ending.returned (Value.bool b)) ?_, by (exact hw'.fr)⟩
  unfold bindsR
  rw [if_neg (by omega), if_neg (by omega), if_neg (by omega)]
  grind
theorem goodKids_calls (es : List (Ex × ExY)) (q : Option Addr) (cap : Nat) (x : Ex) (y : ExY) (w : World) (h : ExOk w (low w) x y) (he : Arr exR w (low w) es q) (hlen : es.length ≤ 4096) (hkd : ∀ k ∈ x.kids, 0 ≤ k ∧ k < (es.length : Int)) (hk5 : x.op = 5 → x.kids.length = x.binds.length + 1) :
    Calls Tryd.prog 74 [.slice q es.length cap, .agg (exC x y).toArray].toArray w fun e w' => e = .returned (.bool (kidsB (es.map Prod.fst) x)) ∧ Ext w w' := by
  have hal := h.al
  have hkl := h.kl
  have hbl := h.bl
  refine enter Tryd.func74 rfl Tryd.ntmps74 rfl (Cls.start w) ?_
  (simp only [argEnv, Nat.zero_add, Nat.reduceAdd])
  simp only [exC]
  apply W.sr
  apply OL.box; rfl; rfl; exact CellsL.agg; (intro bk hbk; simp only [AllLe, and_true] at hbk)
  apply oas; rfl; rfl
  apply OL.nx
  apply W.seq
  apply W.sr
  apply ofa; rfl; rfl; rfl
  apply old; rfl; rfl; exact .head _; rfl; rfl
  apply oop; rfl; apply Pev.len_slice; rfl; exact yes; rfl
  apply omv; rfl; rfl
  apply OL.nx
  apply W.block
  refine W.loop (G := Nat) (fun i => i ≤ x.binds.length ∧ ∀ j, j < i → bindOk (es.map Prod.fst) x j = true) (fun i => x.binds.length - i)
    (fun i => [(0, true, .slice q es.length cap), (3, true, .pointer (some ⟨bk, 0, none⟩)), (8, true, .int .i64 (x.binds.length : Int)), (9, true, .int .i64 (i : Int))])
    (fun _ => Cls [blk bk 28 [.int .i64 x.op, .int .i64 x.n, .slice y.b.1 x.binds.length y.b.2, .slice y.k.1 x.kids.length y.k.2, .slice y.a.1 x.alts.length y.a.2]] [w]) 0 ⟨by omega, fun j hj => by omega⟩ (by exact Sub.au) (fun w' hw' => hw') ?_
  rintro i ⟨hi, hall⟩
  apply W.sr
  apply obn; rfl; rfl; rfl; apply Bin.lss
  apply OL.nx
  apply W.seq
  (refine W.cnd (fun hlt => ?_) (fun hlt => ?_)) <;> (try (exfalso; first | omega | exact hlt trivial | contradiction))
  · have hil : i < x.binds.length := by omega
    have hbad : bindOk (es.map Prod.fst) x i = false → kidsB (es.map Prod.fst) x = false := fun hf => not_all_range hil hf
    have hagain : bindOk (es.map Prod.fst) x i = true → ∀ j, j < i + 1 → bindOk (es.map Prod.fst) x j = true := fun hf j hj => by
      by_cases e : j = i
      · rw [e]; exact hf
      · exact hall j (by omega)
    by_cases h5 : x.op = 5
    · have hkl5 := hk5 h5
      obtain ⟨ak, kv, hqk, habk, hkv, hck⟩ := h.k.get (i := i) (by omega)
      have habk : ak.block < w.heap.size := habk
      have hkr := hkd kv (List.mem_of_getElem? hkv)
      obtain ⟨ae, p, hqe, habe, hp, hcell, hok⟩ := he.get (i := kv.toNat) (by omega)
      have habe : ae.block < w.heap.size := habe
      have hcell : CellsAt w (ae.add (kv.toNat * 5)) [.int .i64 p.1.op, .int .i64 p.1.n, .slice p.2.b.1 p.1.binds.length p.2.b.2, .slice p.2.k.1 p.1.kids.length p.2.k.2, .slice p.2.a.1 p.1.alts.length p.2.a.2] := hcell
      have hbk : bindOk (es.map Prod.fst) x i = decide (p.1.op = 2) := by
        have e1 : x.kids.getD i 0 = kv := by simp [List.getD, hkv]
        have e2 : (es.map Prod.fst).getD kv.toNat ⟨0, 0, [], [], []⟩ = p.1 := by simp [List.getD, hp]
        unfold bindOk
        rw [e1, e2]
        grind
      rw [hqk, hqe]
      apply W.sk
      apply W.sb
      apply W.sr
      apply omv; rfl; rfl
      apply oas; rfl; rfl
      apply OL.nx
      apply W.seq
      apply W.regd0; decide +kernel; kernel_rfl; decide +kernel; exact fun w hw => hw.drew
      apply qfa; rfl; rfl; rfl
      apply qld; rfl; rfl; exact .head _; rfl; rfl
      apply qbn; rfl; rfl; rfl; apply Bin.eql
      apply qmv; rfl; rfl
      apply qy; rfl; rfl; rfl; apply Pev.move; rfl; exact yes
      apply qy; rfl; rfl; rfl; apply Pev.fld; rfl; exact yes; rfl
      apply qy; rfl; rfl; rfl; apply Pev.load_blk; rfl; exact fun h => h; exact .head _; rfl; rfl
      apply qy; rfl; rfl; rfl; apply Pev.move; rfl; exact yes
      apply qy; rfl; rfl; rfl; apply Pev.idx; rfl; exact fun h => h; rfl; exact fun h => h; rfl; rfl; intro hcond; omega
      apply qy; rfl; rfl; rfl; apply Pev.load_kept; rfl; exact fun h => h; exact .head _; rfl; intro hcond; assumption; intro hcond; (rw [add_block]; assumption); intro hcond; exact NotOwned.au
      apply qy; rfl; rfl; rfl; apply Pev.idxI; rfl; exact fun h => h; rfl; exact fun h => h; rfl; intro hcond; omega
      apply qy; rfl; rfl; rfl; apply Pev.fldA; rfl; exact fun h => h; rfl
      apply qy; rfl; rfl; rfl; apply Pev.load_kept; rfl; exact fun h => h; exact .head _; rfl; intro hcond; apply CellsAt.at_ (by assumption) rfl; intro hcond; (simp only [add_block]; assumption); intro hcond; exact NotOwned.au
      apply qy; rfl; rfl; rfl; apply Pev.bin; rfl; exact fun h => h; rfl; exact yes; intro hcond; apply Bin.neq
      apply qop; rfl; apply Pev.pick_and; rfl; exact yes; rfl; exact fun h => h
      apply qmv; rfl; rfl
      apply qno; rfl; rfl; rfl; apply Pev.fld; rfl; exact yes; rfl
      apply qno; rfl; rfl; rfl; apply Pev.load_blk; rfl; exact fun h => h; exact .head _; rfl; rfl
      apply qno; rfl; rfl; rfl; apply Pev.bin; rfl; exact fun h => h; rfl; exact yes; intro hcond; apply Bin.eql
      apply qno; rfl; rfl; rfl; apply Pev.move; rfl; exact fun h => h
      apply QL.op; exact Guard.cyes rfl rfl; rfl; rfl; apply Pev.move; rfl; exact yes
      apply QL.op; exact Guard.cyes rfl rfl; rfl; rfl; apply Pev.bin; rfl; exact fun h => h; rfl; exact yes; intro hcond; apply Bin.gtr
      apply qno; rfl; rfl; rfl; apply Pev.pick_and; rfl; exact fun h => h; rfl; exact fun h => h
      apply qno; rfl; rfl; rfl; apply Pev.move; rfl; exact fun h => h
      apply QL.op; exact Guard.cyes rfl rfl; rfl; rfl; apply Pev.fld; rfl; exact yes; rfl
      apply QL.op; exact Guard.cyes rfl rfl; rfl; rfl; apply Pev.load_blk; rfl; exact fun h => h; exact .head _; rfl; rfl
      apply QL.op; exact Guard.cyes rfl rfl; rfl; rfl; apply Pev.move; rfl; exact yes
      apply QL.gateOff; exact Guard.cyes rfl rfl; (simp; omega); rfl
      apply QL.gateOff; exact Guard.cyes rfl rfl; (simp; omega); rfl
      apply QL.op; exact Guard.cyes rfl rfl; rfl; rfl; apply Pev.fld; rfl; exact yes; rfl
      apply QL.op; exact Guard.cyes rfl rfl; rfl; rfl; apply Pev.load_blk; rfl; exact fun h => h; exact .head _; rfl; rfl
      apply QL.op; exact Guard.cyes rfl rfl; rfl; rfl; apply Pev.move; rfl; exact yes
      apply QL.op; exact Guard.cyes rfl rfl; rfl; rfl; apply Pev.bin; rfl; exact fun h => h; rfl; exact yes; intro hcond; apply Bin.sub_in; omega
      apply QL.gateOff; exact Guard.cyes rfl rfl; (simp; omega); rfl
      apply QL.gateOff; exact Guard.cyes rfl rfl; (simp; omega); rfl
      apply QL.gateOff; exact Guard.cyes rfl rfl; (simp; omega); rfl
      apply qno; rfl; rfl; rfl; apply Pev.pick_off; rfl; exact fun h => h; (intro hcond; simp; omega); rfl; exact yes
      apply qop; rfl; apply Pev.pick_or; rfl; exact yes; rfl; exact fun h => h
      apply QL.nil
      with_reducible apply At.next
      refine W.cond rfl (fun hb => ?_) (fun hb => ?_)
      · apply W.sr
        apply oas; rfl; rfl
        apply OL.nx
        refine W.rt ?_
        ((with_reducible apply At.fin1); rfl; rfl; intro w' hw')
        exact ⟨by rw [hbad (by rw [hbk]; grind)], by (exact hw'.fr)⟩
      · apply W.skip
        with_reducible apply At.in_normal
        with_reducible apply At.next
        apply W.reg
        apply obn; rfl; rfl; rfl; apply Bin.add_in; omega
        apply omv; rfl; rfl
        apply OL.nil
        exact At.again (i + 1) ⟨by omega, hagain (by first | exact hbk | (rw [hbk]; grind))⟩ (by omega) (by exact Sub.au) (fun w' hw' => hw')
    · by_cases h9 : x.op = 9
      · obtain ⟨ab, vi, hqb, habb, hvi, hci⟩ := h.b.get hil
        have habb : ab.block < w.heap.size := habb
        have e1 : x.binds.getD i 0 = vi := by simp [List.getD, hvi]
        by_cases hi0 : i = 0
        · subst hi0
          have hbk : bindOk (es.map Prod.fst) x 0 = true := by unfold bindOk; grind
          apply W.sk
          apply W.sb
          apply W.sr
          apply omv; rfl; rfl
          apply oas; rfl; rfl
          apply OL.nx
          apply W.seq
          apply W.regd0; decide +kernel; kernel_rfl; decide +kernel; exact fun w hw => hw.drew
          apply qfa; rfl; rfl; rfl
          apply qld; rfl; rfl; exact .head _; rfl; rfl
          apply qbn; rfl; rfl; rfl; apply Bin.eql
          apply qmv; rfl; rfl
          apply qy; rfl; rfl; rfl; apply Pev.move; rfl; exact yes
          apply qy; rfl; rfl; rfl; apply Pev.fld; rfl; exact yes; rfl
          apply qy; rfl; rfl; rfl; apply Pev.load_blk; rfl; exact fun h => h; exact .head _; rfl; rfl
          apply qy; rfl; rfl; rfl; apply Pev.move; rfl; exact yes
          apply QL.gateOff; exact Guard.yes rfl rfl; (simp; omega); rfl
          apply QL.gateOff; exact Guard.yes rfl rfl; (simp; omega); rfl
          apply QL.gateOff; exact Guard.yes rfl rfl; (simp; omega); rfl
          apply QL.gateOff; exact Guard.yes rfl rfl; (simp; omega); rfl
          apply QL.gateOff; exact Guard.yes rfl rfl; (simp; omega); rfl
          apply QL.gateOff; exact Guard.yes rfl rfl; (simp; omega); rfl
          apply qop; rfl; apply Pev.pick_off; rfl; exact yes; (intro hcond; simp; omega); rfl; exact yes
          apply qmv; rfl; rfl
          apply qno; rfl; rfl; rfl; apply Pev.fld; rfl; exact yes; rfl
          apply qno; rfl; rfl; rfl; apply Pev.load_blk; rfl; exact yes; exact .head _; rfl; rfl
          apply qno; rfl; rfl; rfl; apply Pev.bin; rfl; exact yes; rfl; exact yes; intro hcond; apply Bin.eql
          apply qno; rfl; rfl; rfl; apply Pev.move; rfl; exact yes
          apply qy; rfl; rfl; rfl; apply Pev.move; rfl; exact yes
          apply qy; rfl; rfl; rfl; apply Pev.bin; rfl; exact fun h => h; rfl; exact yes; intro hcond; apply Bin.gtr
          apply qno; rfl; rfl; rfl; apply Pev.pick_and; rfl; exact yes; rfl; exact fun h => h
          apply qno; rfl; rfl; rfl; apply Pev.move; rfl; exact yes
          apply qy; rfl; rfl; rfl; apply Pev.fld; rfl; exact yes; rfl
          apply qy; rfl; rfl; rfl; apply Pev.load_blk; rfl; exact fun h => h; exact .head _; rfl; rfl
          apply qy; rfl; rfl; rfl; apply Pev.move; rfl; exact yes
          apply QL.gateOff; exact Guard.yes rfl rfl; (focus (simp; done)); rfl
          apply QL.gateOff; exact Guard.yes rfl rfl; (focus (simp; done)); rfl
          apply qy; rfl; rfl; rfl; apply Pev.fld; rfl; exact yes; rfl
          apply qy; rfl; rfl; rfl; apply Pev.load_blk; rfl; exact fun h => h; exact .head _; rfl; rfl
          apply qy; rfl; rfl; rfl; apply Pev.move; rfl; exact yes
          apply qy; rfl; rfl; rfl; apply Pev.bin; rfl; exact fun h => h; rfl; exact yes; intro hcond; apply Bin.sub_in; omega
          apply QL.gateOff; exact Guard.yes rfl rfl; (focus (simp; done)); rfl
          apply QL.gateOff; exact Guard.yes rfl rfl; (focus (simp; done)); rfl
          apply QL.gateOff; exact Guard.yes rfl rfl; (focus (simp; done)); rfl
          apply qno; rfl; rfl; rfl; apply Pev.pick_off; rfl; exact yes; (focus (intro hcond; simp; done)); rfl; exact yes
          apply qop; rfl; apply Pev.pick_or; rfl; exact yes; rfl; exact yes
          apply QL.nil
          with_reducible apply At.next
          refine W.cond rfl (fun hb => ?_) (fun hb => ?_)
          · apply W.sr
            apply oas; rfl; rfl
            apply OL.nx
            refine W.rt ?_
            ((with_reducible apply At.fin1); rfl; rfl; intro w' hw')
            exact ⟨by rw [hbad (by rw [hbk]; grind)], by (exact hw'.fr)⟩
          · apply W.skip
            with_reducible apply At.in_normal
            with_reducible apply At.next
            apply W.reg
            apply obn; rfl; rfl; rfl; apply Bin.add_in; omega
            apply omv; rfl; rfl
            apply OL.nil
            exact At.again (0 + 1) ⟨by omega, hagain (by first | exact hbk | (rw [hbk]; grind))⟩ (by omega) (by exact Sub.au) (fun w' hw' => hw')
        · obtain ⟨ab2, vm, hqb2, _, hvm, hcm⟩ := h.b.get (i := i - 1) (by omega)
          rw [hqb] at hqb2
          obtain rfl := Option.some.inj hqb2
          have e2 : x.binds.getD (i - 1) 0 = vm := by simp [List.getD, hvm]
          have hbk : bindOk (es.map Prod.fst) x i = decide (vm < vi) := by
            unfold bindOk
            rw [e1, e2]
            grind
          have hcm : w.cell? (ab.add (((i : Int) - 1).toNat * 1)) = some (.int .i64 vm) := by rw [show ((i : Int) - 1).toNat = i - 1 by omega]; exact hcm
          rw [hqb]
          apply W.sk
          apply W.sb
          apply W.sr
          apply omv; rfl; rfl
          apply oas; rfl; rfl
          apply OL.nx
          apply W.seq
          apply W.regd0; decide +kernel; kernel_rfl; decide +kernel; exact fun w hw => hw.drew
          apply qfa; rfl; rfl; rfl
          apply qld; rfl; rfl; exact .head _; rfl; rfl
          apply qbn; rfl; rfl; rfl; apply Bin.eql
          apply qmv; rfl; rfl
          apply qy; rfl; rfl; rfl; apply Pev.move; rfl; exact yes
          apply qy; rfl; rfl; rfl; apply Pev.fld; rfl; exact yes; rfl
          apply qy; rfl; rfl; rfl; apply Pev.load_blk; rfl; exact fun h => h; exact .head _; rfl; rfl
          apply qy; rfl; rfl; rfl; apply Pev.move; rfl; exact yes
          apply QL.gateOff; exact Guard.yes rfl rfl; (simp; omega); rfl
          apply QL.gateOff; exact Guard.yes rfl rfl; (simp; omega); rfl
          apply QL.gateOff; exact Guard.yes rfl rfl; (simp; omega); rfl
          apply QL.gateOff; exact Guard.yes rfl rfl; (simp; omega); rfl
          apply QL.gateOff; exact Guard.yes rfl rfl; (simp; omega); rfl
          apply QL.gateOff; exact Guard.yes rfl rfl; (simp; omega); rfl
          apply qop; rfl; apply Pev.pick_off; rfl; exact yes; (intro hcond; simp; omega); rfl; exact yes
          apply qmv; rfl; rfl
          apply qno; rfl; rfl; rfl; apply Pev.fld; rfl; exact yes; rfl
          apply qno; rfl; rfl; rfl; apply Pev.load_blk; rfl; exact yes; exact .head _; rfl; rfl
          apply qno; rfl; rfl; rfl; apply Pev.bin; rfl; exact yes; rfl; exact yes; intro hcond; apply Bin.eql
          apply qno; rfl; rfl; rfl; apply Pev.move; rfl; exact yes
          apply qy; rfl; rfl; rfl; apply Pev.move; rfl; exact yes
          apply qy; rfl; rfl; rfl; apply Pev.bin; rfl; exact fun h => h; rfl; exact yes; intro hcond; apply Bin.gtr
          apply qno; rfl; rfl; rfl; apply Pev.pick_and; rfl; exact yes; rfl; exact fun h => h
          apply qno; rfl; rfl; rfl; apply Pev.move; rfl; exact yes
          apply qy; rfl; rfl; rfl; apply Pev.fld; rfl; exact yes; rfl
          apply qy; rfl; rfl; rfl; apply Pev.load_blk; rfl; exact fun h => h; exact .head _; rfl; rfl
          apply qy; rfl; rfl; rfl; apply Pev.move; rfl; exact yes
          apply qy; rfl; rfl; rfl; apply Pev.idx; rfl; exact fun h => h; rfl; exact fun h => h; rfl; rfl; intro hcond; omega
          apply qy; rfl; rfl; rfl; apply Pev.load_kept; rfl; exact fun h => h; exact .head _; rfl; intro hcond; assumption; intro hcond; (rw [add_block]; assumption); intro hcond; exact NotOwned.au
          apply qy; rfl; rfl; rfl; apply Pev.fld; rfl; exact yes; rfl
          apply qy; rfl; rfl; rfl; apply Pev.load_blk; rfl; exact fun h => h; exact .head _; rfl; rfl
          apply qy; rfl; rfl; rfl; apply Pev.move; rfl; exact yes
          apply qy; rfl; rfl; rfl; apply Pev.bin; rfl; exact fun h => h; rfl; exact yes; intro hcond; apply Bin.sub_in; omega
          apply qy; rfl; rfl; rfl; apply Pev.idxI; rfl; exact fun h => h; rfl; exact fun h => h; rfl; intro hcond; omega
          apply qy; rfl; rfl; rfl; apply Pev.load_kept; rfl; exact fun h => h; exact .head _; rfl; intro hcond; assumption; intro hcond; (rw [add_block]; assumption); intro hcond; exact NotOwned.au
          apply qy; rfl; rfl; rfl; apply Pev.bin; rfl; exact fun h => h; rfl; exact fun h => h; intro hcond; apply Bin.leq
          apply qno; rfl; rfl; rfl; apply Pev.pick_and; rfl; exact yes; rfl; exact fun h => h
          apply qop; rfl; apply Pev.pick_or; rfl; exact yes; rfl; exact yes
          apply QL.nil
          with_reducible apply At.next
          refine W.cond rfl (fun hb => ?_) (fun hb => ?_)
          · apply W.sr
            apply oas; rfl; rfl
            apply OL.nx
            refine W.rt ?_
            ((with_reducible apply At.fin1); rfl; rfl; intro w' hw')
            exact ⟨by rw [hbad (by rw [hbk]; grind)], by (exact hw'.fr)⟩
          · apply W.skip
            with_reducible apply At.in_normal
            with_reducible apply At.next
            apply W.reg
            apply obn; rfl; rfl; rfl; apply Bin.add_in; omega
            apply omv; rfl; rfl
            apply OL.nil
            exact At.again (i + 1) ⟨by omega, hagain (by first | exact hbk | (rw [hbk]; grind))⟩ (by omega) (by exact Sub.au) (fun w' hw' => hw')
      · have hbk : bindOk (es.map Prod.fst) x i = true := by unfold bindOk; grind
        apply W.sk
        apply W.sb
        apply W.sr
        apply omv; rfl; rfl
        apply oas; rfl; rfl
        apply OL.nx
        apply W.seq
        apply W.regd0; decide +kernel; kernel_rfl; decide +kernel; exact fun w hw => hw.drew
        apply qfa; rfl; rfl; rfl
        apply qld; rfl; rfl; exact .head _; rfl; rfl
        apply qbn; rfl; rfl; rfl; apply Bin.eql
        apply qmv; rfl; rfl
        apply qy; rfl; rfl; rfl; apply Pev.move; rfl; exact yes
        apply qy; rfl; rfl; rfl; apply Pev.fld; rfl; exact yes; rfl
        apply qy; rfl; rfl; rfl; apply Pev.load_blk; rfl; exact fun h => h; exact .head _; rfl; rfl
        apply qy; rfl; rfl; rfl; apply Pev.move; rfl; exact yes
        apply QL.gateOff; exact Guard.yes rfl rfl; (simp; omega); rfl
        apply QL.gateOff; exact Guard.yes rfl rfl; (simp; omega); rfl
        apply QL.gateOff; exact Guard.yes rfl rfl; (simp; omega); rfl
        apply QL.gateOff; exact Guard.yes rfl rfl; (simp; omega); rfl
        apply QL.gateOff; exact Guard.yes rfl rfl; (simp; omega); rfl
        apply QL.gateOff; exact Guard.yes rfl rfl; (simp; omega); rfl
        apply qop; rfl; apply Pev.pick_off; rfl; exact yes; (intro hcond; simp; omega); rfl; exact yes
        apply qmv; rfl; rfl
        apply qno; rfl; rfl; rfl; apply Pev.fld; rfl; exact yes; rfl
        apply qno; rfl; rfl; rfl; apply Pev.load_blk; rfl; exact yes; exact .head _; rfl; rfl
        apply qno; rfl; rfl; rfl; apply Pev.bin; rfl; exact yes; rfl; exact yes; intro hcond; apply Bin.eql
        apply qno; rfl; rfl; rfl; apply Pev.move; rfl; exact yes
        apply qy; rfl; rfl; rfl; apply Pev.move; rfl; exact yes
        apply qy; rfl; rfl; rfl; apply Pev.bin; rfl; exact fun h => h; rfl; exact yes; intro hcond; apply Bin.gtr
        apply qno; rfl; rfl; rfl; apply Pev.pick_and; rfl; exact yes; rfl; exact fun h => h
        apply qno; rfl; rfl; rfl; apply Pev.move; rfl; exact yes
        apply qy; rfl; rfl; rfl; apply Pev.fld; rfl; exact yes; rfl
        apply qy; rfl; rfl; rfl; apply Pev.load_blk; rfl; exact fun h => h; exact .head _; rfl; rfl
        apply qy; rfl; rfl; rfl; apply Pev.move; rfl; exact yes
        apply QL.gateOff; exact Guard.yes rfl rfl; (simp; omega); rfl
        apply QL.gateOff; exact Guard.yes rfl rfl; (simp; omega); rfl
        apply qy; rfl; rfl; rfl; apply Pev.fld; rfl; exact yes; rfl
        apply qy; rfl; rfl; rfl; apply Pev.load_blk; rfl; exact fun h => h; exact .head _; rfl; rfl
        apply qy; rfl; rfl; rfl; apply Pev.move; rfl; exact yes
        apply qy; rfl; rfl; rfl; apply Pev.bin; rfl; exact fun h => h; rfl; exact yes; intro hcond; apply Bin.sub_in; omega
        apply QL.gateOff; exact Guard.yes rfl rfl; (simp; omega); rfl
        apply QL.gateOff; exact Guard.yes rfl rfl; (simp; omega); rfl
        apply QL.gateOff; exact Guard.yes rfl rfl; (simp; omega); rfl
        apply qno; rfl; rfl; rfl; apply Pev.pick_off; rfl; exact yes; (intro hcond; simp; omega); rfl; exact yes
        apply qop; rfl; apply Pev.pick_or; rfl; exact yes; rfl; exact yes
        apply QL.nil
        with_reducible apply At.next
        refine W.cond rfl (fun hb => ?_) (fun hb => ?_)
        · apply W.sr
          apply oas; rfl; rfl
          apply OL.nx
          refine W.rt ?_
          ((with_reducible apply At.fin1); rfl; rfl; intro w' hw')
          exact ⟨by rw [hbad (by rw [hbk]; grind)], by (exact hw'.fr)⟩
        · apply W.skip
          with_reducible apply At.in_normal
          with_reducible apply At.next
          apply W.reg
          apply obn; rfl; rfl; rfl; apply Bin.add_in; omega
          apply omv; rfl; rfl
          apply OL.nil
          exact At.again (i + 1) ⟨by omega, hagain (by first | exact hbk | (rw [hbk]; grind))⟩ (by omega) (by exact Sub.au) (fun w' hw' => hw')
  · obtain rfl : i = x.binds.length := by omega
    have hkb : kidsB (es.map Prod.fst) x = true := all_range hall
    refine W.xt ?_
    with_reducible apply At.next
    apply W.sr
    apply oas; rfl; rfl
    apply OL.nx
    apply W.ret
    ((with_reducible apply At.fin1); rfl; rfl; intro w' hw')
    exact ⟨by rw [hkb], by (exact hw'.fr)⟩
end Go.Proofs.YtlboppiogeaicaaDoor.co
namespace Go.Co
open Go.Eng Go.RowKit
set_option linter.unusedVariables false
set_option linter.unusedSimpArgs false
theorem dep_small {e : List Ex} {P : List Int} (ht : IsTree e) (hP : Parents e P) {i : Nat} (hi : i < e.length) : dep e P i ≤ e.length := by
  obtain ⟨d, hu, hd⟩ := dep_under ht hP hi
  have := hu.le ht.down
  omega
theorem depths_small {e : List Ex} {P : List Int} (ht : IsTree e) (hP : Parents e P) : ∀ {n : Nat}, n ≤ e.length → depths e P n ≤ e.length
  | 0, _ => Nat.zero_le _
  | n + 1, h => by
    rw [depths_succ]
    have := depths_small ht hP (n := n) (by omega)
    have := dep_small ht hP (i := n) (by omega)
    omega
/-- a node's parent, or none -/
theorem Parents.cases {e : List Ex} {P : List Int} (hP : Parents e P) (ht : IsTree e) {c : Nat} (hc : c < e.length) : P[c]? = some (-1) ∨ ∃ p m : Nat, P[c]? = some (p : Int) ∧ c < p ∧ p < e.length ∧ Par e c p m := by
  by_cases h : c + 1 < e.length
  · obtain ⟨p, m, hp⟩ := ht.one c h
    have hl := hp.lt ht.down
    exact .inr ⟨p, m, hP.par c p m hp, hl.1, hl.2, hp⟩
  · rw [show c = e.length - 1 by omega]
    exact .inl hP.root
end Go.Co
namespace Go.Proofs.YtlboppiogeaicaaDoor.co
open Go.RowKit Go.Eng Go.Co
set_option linter.unusedVariables false
set_option linter.unusedSimpArgs false
set_option maxRecDepth 100000
theorem Depth_calls (e : List Ex) (q qp : Option Addr) (cap cp : Nat) (P : List Int) (w : World) (ht : IsTree e) (hP : Parents e P) (hlen : e.length ≤ 4096) (hI : IntsO w (low w) P qp) :
    Calls Tryd.prog 71 [.slice q e.length cap, .slice qp e.length cp].toArray w fun e1 w' => e1 = .returned (.int .i64 (depths e P e.length : Int)) ∧ Ext w w' := by
  refine enter Tryd.func71 rfl Tryd.ntmps71 rfl (Cls.start w) ?_
  (simp only [argEnv, Nat.zero_add, Nat.reduceAdd])
  apply W.sr
  apply oas; rfl; rfl
  apply OL.nsr
  apply oas; rfl; rfl
  apply OL.nx
  apply W.seq
  apply W.sr
  apply omv; rfl; rfl
  apply oop; rfl; apply Pev.len_slice; rfl; exact yes; rfl
  apply omv; rfl; rfl
  apply OL.nx
  apply W.block
  refine W.loop (G := Nat) (fun i => i ≤ e.length) (fun i => e.length - i)
    (fun i => [(1, true, .slice qp e.length cp), (5, true, .int .i64 (depths e P i : Int)), (10, true, .int .i64 (e.length : Int)), (11, true, .int .i64 (i : Int))])
    (fun i => Cls [] [w]) 0 (by omega) (by exact Sub.au) (fun w' hw' => hw') ?_
  rintro i hi
  apply W.sr
  apply obn; rfl; rfl; rfl; apply Bin.lss
  apply OL.nx
  apply W.seq
  (refine W.cnd (fun hlt => ?_) (fun hlt => ?_)) <;> (try (exfalso; first | omega | exact hlt trivial | contradiction))
  · have hil : i < e.length := by omega
    have hdi := dep_small ht hP hil
    have hds := depths_small ht hP hi
    apply W.sk
    apply W.sb
    apply W.sr
    apply omv; rfl; rfl
    apply oas; rfl; rfl
    apply OL.nsr
    apply oas; rfl; rfl
    apply OL.nx
    apply W.seq
    apply W.sr
    apply omv; rfl; rfl
    apply oas; rfl; rfl
    apply OL.nx
    apply W.block
    refine W.loop (G := Int × Nat) (fun g => (g.1 = -1 ∧ g.2 = dep e P i) ∨ (0 ≤ g.1 ∧ g.1.toNat < e.length ∧ g.2 + dep e P g.1.toNat = dep e P i)) (fun g => if g.1 < 0 then 0 else e.length - g.1.toNat)
      (fun g => [(1, true, .slice qp e.length cp), (5, true, .int .i64 (depths e P i : Int)), (7, true, .int .i64 (g.2 : Int)), (8, true, .int .i64 g.1), (10, true, .int .i64 (e.length : Int)), (11, true, .int .i64 (i : Int))])
      (fun i => Cls [] [w]) ((i : Int), 0) (.inr ⟨by simp, by simpa using hil, by simp⟩) (by exact Sub.au) (fun w' hw' => hw') ?_
    rintro ⟨k, n⟩ hk
    simp only at hk ⊢
    apply W.seq
    apply W.sr
    apply omv; rfl; rfl
    apply obn; rfl; rfl; rfl; apply Bin.geq
    apply OL.nx
    (refine W.cnd (fun hk0 => ?_) (fun hk0 => ?_)) <;> (try (exfalso; first | omega | exact hk0 trivial | contradiction))
    · obtain ⟨c, rfl⟩ : ∃ c : Nat, k = (c : Int) := ⟨k.toNat, by omega⟩
      obtain ⟨hc, hn⟩ : c < e.length ∧ n + dep e P c = dep e P i := by
        rcases hk with ⟨h1, _⟩ | ⟨_, h2, h3⟩
        · omega
        · exact ⟨by simpa using h2, by simpa using h3⟩
      obtain ⟨a, u, hq, hab, hu, hcell⟩ := hI.get (i := c) (by rw [hP.len]; exact hc)
      have hab : a.block < w.heap.size := hab
      rw [hq]
      apply W.sk
      apply W.sb
      apply W.reg
      apply omv; rfl; rfl
      apply obn; rfl; rfl; rfl; apply Bin.add_in; omega
      apply oas; rfl; rfl
      apply OL.nil
      with_reducible apply At.in_normal
      with_reducible apply At.next
      apply W.reg
      apply omv; rfl; rfl
      apply omv; rfl; rfl
      apply oop; rfl; apply Pev.idx; rfl; exact yes; rfl; exact yes; rfl; rfl; intro hcond; omega
      apply oop; rfl; apply Pev.load_kept; rfl; exact yes; exact .head _; rfl; intro hcond; assumption; intro hcond; (rw [add_block]; assumption); intro hcond; exact NotOwned.au
      apply oas; rfl; rfl
      apply OL.nil
      rcases hP.cases ht hc with h1 | ⟨p, m, h1, h2, h3, _⟩
      · rw [h1] at hu
        obtain rfl := Option.some.inj hu
        have := dep_root (e := e) h1
        exact At.again (-1, n + 1) (.inl ⟨rfl, by simp only; omega⟩) (by simp only; rw [if_pos (by omega), if_neg (by omega)]; simp; omega) (by exact Sub.au) (fun w' hw' => hw')
      · rw [h1] at hu
        obtain rfl := Option.some.inj hu
        have := dep_up h1 ⟨by omega, by simpa using h2, by simpa using h3⟩
        simp only [Int.toNat_natCast] at this
        exact At.again ((p : Int), n + 1) (.inr ⟨by simp, by simpa using h3, by simp only [Int.toNat_natCast]; omega⟩) (by simp only; rw [if_neg (by omega), if_neg (by omega)]; simp; omega) (by exact Sub.au) (fun w' hw' => hw')
    · have hn : n = dep e P i := by
        rcases hk with ⟨_, h1⟩ | ⟨h1, _⟩
        · exact h1
        · omega
      subst hn
      refine W.xt ?_
      with_reducible apply At.next
      apply W.reg
      apply omv; rfl; rfl
      apply omv; rfl; rfl
      apply oop; rfl; apply Pev.max2; rfl; exact yes; rfl; exact yes
      apply oas; rfl; rfl
      apply OL.nil
      with_reducible apply At.in_normal
      with_reducible apply At.next
      apply W.reg
      apply obn; rfl; rfl; rfl; apply Bin.add_in; omega
      apply omv; rfl; rfl
      apply OL.nil
      rw [maxIf, ← depths_succ]
      skip
      exact At.again (i + 1) (by omega) (by omega) (by exact Sub.au) (fun w' hw' => hw')
  · obtain rfl : i = e.length := by omega
    refine W.xt ?_
    with_reducible apply At.next
    apply W.sr
    apply omv; rfl; rfl
    apply oas; rfl; rfl
    apply OL.nx
    apply W.ret
    ((with_reducible apply At.fin1); rfl; rfl; intro w' hw')
    exact ⟨rfl, by (exact hw'.fr)⟩
theorem binder_calls (es : List (Ex × ExY)) (q qp : Option Addr) (cap cp : Nat) (P : List Int) (at_ : Nat) (x0 : Ex) (w : World) (he : Arr exR w (low w) es q) (hlen : es.length ≤ 4096) (ht : IsTree (es.map Prod.fst)) (hP : Parents (es.map Prod.fst) P) (hI : IntsO w (low w) P qp)
    (hx0 : (es.map Prod.fst)[at_]? = some x0) (hk7 : ∀ p ∈ es, p.1.op = 7 ∨ p.1.op = 13 → p.1.kids.length = 1 + p.1.alts.length) (ha : ∀ p ∈ es, ¬ (p.1.op = 7 ∨ p.1.op = 13) → p.1.alts.length = 0) :
    Calls Tryd.prog 46 [.slice q es.length cap, .slice qp es.length cp, .int .i64 (at_ : Int)].toArray w fun e1 w' => e1 = .returned (.int .i64 (bnd (es.map Prod.fst) P x0.n at_)) ∧ Ext w w' := by
  obtain ⟨e, hee⟩ : ∃ e, es.map Prod.fst = e := ⟨_, rfl⟩
  have hel : e.length = es.length := by rw [← hee, List.length_map]
  rw [hee] at hx0 ht hP ⊢
  have hget : ∀ {i : Nat}, i < es.length → ∃ a p, q = some a ∧ a.block < w.heap.size ∧ es[i]? = some p ∧ e[i]? = some p.1 ∧ CellsAt w (a.add (i * 5)) [.int .i64 p.1.op, .int .i64 p.1.n, .slice p.2.b.1 p.1.binds.length p.2.b.2, .slice p.2.k.1 p.1.kids.length p.2.k.2, .slice p.2.a.1 p.1.alts.length p.2.a.2] ∧ ExOk w (low w) p.1 p.2 := fun {i} hi => by
    obtain ⟨a, p, h1, h2, h3, h4, h5⟩ := he.get hi
    exact ⟨a, p, h1, h2, h3, by rw [← hee, List.getElem?_map, h3]; rfl, h4, h5⟩
  have hat : at_ < es.length := by have := (List.getElem?_eq_some_iff.1 hx0).1; omega
  obtain ⟨a0, p0, hq0, hab0, hp0, hpe0, hcell0, hok0⟩ := hget hat
  rw [hx0] at hpe0
  obtain rfl := Option.some.inj hpe0
  refine enter Tryd.func46 rfl Tryd.ntmps46 rfl (Cls.start w) ?_
  (simp only [argEnv, Nat.zero_add, Nat.reduceAdd])
  apply W.sr
  apply oas; rfl; rfl
  apply OL.nx
  apply W.seq
  apply W.sr
  apply omv; rfl; rfl
  apply oas; rfl; rfl
  apply OL.nx
  apply W.block
  refine W.loop (G := Nat) (fun c => c < es.length ∧ bnd e P p0.1.n c = bnd e P p0.1.n at_) (fun c => es.length - c)
    (fun c => [(0, true, .slice q es.length cap), (1, true, .slice qp es.length cp), (2, true, .int .i64 (at_ : Int)), (7, true, .int .i64 (c : Int))])
    (fun c => Cls [] [w]) at_ ⟨hat, rfl⟩ (by exact Sub.au) (fun w' hw' => hw') ?_
  rintro c ⟨hc, hb⟩
  obtain ⟨a, u, hq, hab, hu, hcell⟩ := hI.get (i := c) (by rw [hP.len]; omega)
  have hab : a.block < w.heap.size := hab
  rw [hq]
  apply W.seq
  apply W.sr
  apply omv; rfl; rfl
  apply omv; rfl; rfl
  apply oop; rfl; apply Pev.idx; rfl; exact yes; rfl; exact yes; rfl; rfl; intro hcond; omega
  apply oop; rfl; apply Pev.load_kept; rfl; exact yes; exact .head _; rfl; intro hcond; assumption; intro hcond; (rw [add_block]; assumption); intro hcond; exact NotOwned.au
  apply obn; rfl; rfl; rfl; apply Bin.geq
  apply OL.nx
  rcases hP.cases ht (c := c) (by omega) with h1 | ⟨p, m0, h1, h2, h3, _⟩
  · rw [h1] at hu
    obtain rfl := Option.some.inj hu
    refine W.cond rfl (fun hb => by cases hb) (fun _ => ?_)
    refine W.xt ?_
    with_reducible apply At.next
    apply W.sr
    apply oas; rfl; rfl
    apply OL.nx
    apply W.ret
    ((with_reducible apply At.fin1); rfl; rfl; intro w' hw')
    exact ⟨by rw [← hb, bnd_root h1], by (exact hw'.fr)⟩
  · rw [h1] at hu
    obtain rfl := Option.some.inj hu
    obtain ⟨a1, x, hq1, hab1, hp1, hpe1, hcell1, hok1⟩ := hget (i := p) (by omega)
    rw [hq0] at hq1
    obtain rfl := Option.some.inj hq1
    have hkl := hok1.kl
    have hup := bnd_up (n := p0.1.n) h1 h2 hpe1
    rw [hq0]
    refine W.cond rfl (fun _ => ?_) (fun hb => by simp at hb)
    apply W.sk
    apply W.sb
    apply W.sr
    apply omv; rfl; rfl
    apply omv; rfl; rfl
    apply oop; rfl; apply Pev.idx; rfl; exact yes; rfl; exact yes; rfl; rfl; intro hcond; omega
    apply oop; rfl; apply Pev.load_kept; rfl; exact yes; exact .head _; rfl; intro hcond; assumption; intro hcond; (rw [add_block]; assumption); intro hcond; exact NotOwned.au
    apply oas; rfl; rfl
    apply OL.nsr
    apply omv; rfl; rfl
    apply omv; rfl; rfl
    apply oop; rfl; apply Pev.idx; rfl; exact yes; rfl; exact yes; rfl; rfl; intro hcond; omega
    apply oop; rfl; apply Pev.fldA; rfl; exact yes; rfl
    apply oop; rfl; apply Pev.load_kept; rfl; exact yes; exact .head _; rfl; intro hcond; apply CellsAt.at_ (by assumption) rfl; intro hcond; (simp only [add_block]; assumption); intro hcond; exact NotOwned.au
    apply oop; rfl; apply Pev.len_slice; rfl; exact yes; rfl
    apply omv; rfl; rfl
    apply OL.nx
    apply W.block
    refine W.loop (G := Nat) (fun m => m ≤ x.1.kids.length ∧ ∀ m', m' < m → hitK x.1 c p0.1.n m' = false) (fun m => x.1.kids.length - m)
      (fun m => [(0, true, .slice (some a0) es.length cap), (1, true, .slice (some a) es.length cp), (2, true, .int .i64 (at_ : Int)), (7, true, .int .i64 (c : Int)), (8, true, .int .i64 (p : Int)), (29, true, .slice x.2.k.1 x.1.kids.length x.2.k.2), (30, true, .int .i64 (x.1.kids.length : Int)), (31, true, .int .i64 (m : Int))])
      (fun m => Cls [] [w]) 0 ⟨by omega, fun m' h => by omega⟩ (by exact Sub.au) (fun w' hw' => hw') ?_
    rintro m ⟨hm, hno⟩
    apply W.sr
    apply obn; rfl; rfl; rfl; apply Bin.lss
    apply OL.nx
    apply W.seq
    (refine W.cnd (fun hlt => ?_) (fun hlt => ?_)) <;> (try (exfalso; first | omega | exact hlt trivial | contradiction))
    · have hml : m < x.1.kids.length := by omega
      obtain ⟨ak, k, hqk, habk, hk, hck⟩ := hok1.k.get hml
      have habk : ak.block < w.heap.size := habk
      have hxm := List.mem_of_getElem? hp1
      rw [hqk]
      by_cases hkc : k = (c : Int)
      · subst hkc
        obtain ⟨qs, cs, hIs, hsl, hcall⟩ := Scope_calls x.1 x.2 m w hok1 (fun h7 => by have := hk7 x hxm h7; omega) (ha x hxm) (by omega)
        simp only [exC] at hcall
        have hhk : hitK x.1 c p0.1.n m = decide (p0.1.n ∈ scopeX x.1 m) := by unfold hitK; rw [hk]; simp
        apply W.sk
        apply W.sb
        apply W.sr
        apply omv; rfl; rfl
        apply oop; rfl; apply Pev.idx; rfl; exact yes; rfl; exact yes; rfl; rfl; intro hcond; omega
        apply oop; rfl; apply Pev.load_kept; rfl; exact yes; exact .head _; rfl; intro hcond; assumption; intro hcond; (rw [add_block]; assumption); intro hcond; exact NotOwned.au
        apply oas; rfl; rfl
        apply oas; rfl; rfl
        apply OL.nx
        apply W.seq
        apply W.regd0; decide +kernel; kernel_rfl; decide +kernel; exact fun w hw => hw.drew
        apply qmv; rfl; rfl
        apply qmv; rfl; rfl
        apply qbn; rfl; rfl; rfl; apply Bin.eql
        apply qmv; rfl; rfl
        apply qy; rfl; rfl; rfl; apply Pev.move; rfl; exact yes
        apply qy; rfl; rfl; rfl; apply Pev.move; rfl; exact yes
        apply qy; rfl; rfl; rfl; apply Pev.idx; rfl; exact fun h => h; rfl; exact fun h => h; rfl; rfl; intro hcond; omega
        apply qy; rfl; rfl; rfl; apply Pev.load_keptA; rfl; exact fun h => h; exact .head _; rfl; intro hcond; assumption; rfl; intro hcond; (rw [add_block]; assumption); intro hcond; exact NotOwned.au
        apply qy; rfl; rfl; rfl; apply Pev.move; rfl; exact yes
        (((first | (with_reducible apply OL.op) | (with_reducible apply QL.op)); (exact Guard.au); rfl; rfl); (exact Pev.call rfl (by exact Args.au) (fun _ w2 hw2 => (hcall w2 (hw2.same (.head _) (fun k hk => by exact NotOwned.au)) (hw2.kp w (by exact mau)).size).mono (fun e w3 h => ⟨h.1, hw2.ext h.2⟩))))
        apply qy; rfl; rfl; rfl; apply Pev.move; rfl; exact yes
        apply qy; rfl; rfl; rfl; apply Pev.move; rfl; exact yes
        apply qy; rfl; rfl; rfl; apply Pev.idx; rfl; exact fun h => h; rfl; exact fun h => h; rfl; rfl; intro hcond; omega
        apply qy; rfl; rfl; rfl; apply Pev.fldA; rfl; exact fun h => h; rfl
        apply qy; rfl; rfl; rfl; apply Pev.load_kept; rfl; exact fun h => h; exact .head _; rfl; intro hcond; apply CellsAt.at_ (by assumption) rfl; intro hcond; (simp only [add_block]; assumption); intro hcond; exact NotOwned.au
        (((first | (with_reducible apply OL.op) | (with_reducible apply QL.op)); (exact Guard.au); rfl; rfl); (exact Pev.call rfl (by exact Args.au) (fun _ w2 hw2 => (In_calls qs cs (scopeX x.1 m) p0.1.n w2 (by omega) (hIs.at hw2 (by exact mau) (fun k hk => by exact NotOwned.au))).mono (fun e w3 h => ⟨h.1, hw2.ext h.2⟩))))
        apply qop; rfl; apply Pev.pick_and; rfl; exact yes; rfl; exact fun h => h
        apply QL.nil
        with_reducible apply At.next
        refine W.cond rfl (fun hb2 => ?_) (fun hb2 => ?_)
        · have hin : p0.1.n ∈ scopeX x.1 m := by simpa using hb2
          apply W.sr
          apply omv; rfl; rfl
          apply oas; rfl; rfl
          apply OL.nx
          refine W.rt ?_
          ((with_reducible apply At.fin1); rfl; rfl; intro w' hw')
          refine ⟨?_, by (exact hw'.fr)⟩
          have hh : hit x.1 c p0.1.n = true := by
            unfold hit
            rw [List.any_eq_true]
            exact ⟨m, List.mem_range.2 hml, by rw [hhk]; simpa using hin⟩
          rw [← hb, hup, if_pos hh]
        · have hnin : ¬ p0.1.n ∈ scopeX x.1 m := by simpa using hb2
          apply W.skip
          with_reducible apply At.in_normal
          with_reducible apply At.next
          apply W.reg
          apply obn; rfl; rfl; rfl; apply Bin.add_in; omega
          apply omv; rfl; rfl
          apply OL.nil
          refine At.again (m + 1) ⟨by omega, fun m' hm' => ?_⟩ (by omega) (by exact Sub.au) (fun w' hw' => hw')
          by_cases em : m' = m
          · subst em
            rw [hhk]
            simpa using hnin
          · exact hno m' (by omega)
      · apply W.sk
        apply W.sb
        apply W.sr
        apply omv; rfl; rfl
        apply oop; rfl; apply Pev.idx; rfl; exact yes; rfl; exact yes; rfl; rfl; intro hcond; omega
        apply oop; rfl; apply Pev.load_kept; rfl; exact yes; exact .head _; rfl; intro hcond; assumption; intro hcond; (rw [add_block]; assumption); intro hcond; exact NotOwned.au
        apply oas; rfl; rfl
        apply oas; rfl; rfl
        apply OL.nx
        apply W.seq
        apply W.regd0; decide +kernel; kernel_rfl; decide +kernel; exact fun w hw => hw.drew
        apply qmv; rfl; rfl
        apply qmv; rfl; rfl
        apply qbn; rfl; rfl; rfl; apply Bin.eql
        apply qmv; rfl; rfl
        apply qy; rfl; rfl; rfl; apply Pev.move; rfl; exact yes
        apply qy; rfl; rfl; rfl; apply Pev.move; rfl; exact yes
        apply qy; rfl; rfl; rfl; apply Pev.idx; rfl; exact fun h => h; rfl; exact fun h => h; rfl; rfl; intro hcond; omega
        apply qy; rfl; rfl; rfl; apply Pev.load_keptA; rfl; exact fun h => h; exact .head _; rfl; intro hcond; assumption; rfl; intro hcond; (rw [add_block]; assumption); intro hcond; exact NotOwned.au
        apply qy; rfl; rfl; rfl; apply Pev.move; rfl; exact yes
        apply QL.gateOff; exact Guard.yes rfl rfl; (simp; omega); rfl
        apply qy; rfl; rfl; rfl; apply Pev.move; rfl; exact yes
        apply qy; rfl; rfl; rfl; apply Pev.move; rfl; exact yes
        apply qy; rfl; rfl; rfl; apply Pev.idx; rfl; exact fun h => h; rfl; exact fun h => h; rfl; rfl; intro hcond; omega
        apply qy; rfl; rfl; rfl; apply Pev.fldA; rfl; exact fun h => h; rfl
        apply qy; rfl; rfl; rfl; apply Pev.load_kept; rfl; exact fun h => h; exact .head _; rfl; intro hcond; apply CellsAt.at_ (by assumption) rfl; intro hcond; (simp only [add_block]; assumption); intro hcond; exact NotOwned.au
        apply QL.gateOff; exact Guard.yes rfl rfl; (simp; omega); rfl
        apply qop; rfl; apply Pev.pick_off; rfl; exact yes; (intro hcond; simp; omega); rfl; exact yes
        apply QL.nil
        with_reducible apply At.next
        refine W.cond rfl (fun hb2 => by simp [hkc] at hb2) (fun hb2 => ?_)
        apply W.skip
        with_reducible apply At.in_normal
        with_reducible apply At.next
        apply W.reg
        apply obn; rfl; rfl; rfl; apply Bin.add_in; omega
        apply omv; rfl; rfl
        apply OL.nil
        refine At.again (m + 1) ⟨by omega, fun m' hm' => ?_⟩ (by omega) (by exact Sub.au) (fun w' hw' => hw')
        by_cases em : m' = m
        · subst em
          unfold hitK
          rw [hk]
          simp [hkc]
        · exact hno m' (by omega)
    · obtain rfl : m = x.1.kids.length := by omega
      have hh : ¬ hit x.1 c p0.1.n = true := by
        unfold hit
        rw [List.any_eq_true]
        rintro ⟨m', h4, h5⟩
        rw [hno m' (List.mem_range.1 h4)] at h5
        cases h5
      rw [if_neg hh] at hup
      refine W.xt ?_
      with_reducible apply At.in_normal
      with_reducible apply At.next
      apply W.reg
      apply omv; rfl; rfl
      apply omv; rfl; rfl
      apply oop; rfl; apply Pev.idx; rfl; exact yes; rfl; exact yes; rfl; rfl; intro hcond; omega
      apply oop; rfl; apply Pev.load_kept; rfl; exact yes; exact .head _; rfl; intro hcond; assumption; intro hcond; (rw [add_block]; assumption); intro hcond; exact NotOwned.au
      apply oas; rfl; rfl
      apply OL.nil
      refine At.again p ⟨by omega, by rw [← hb, hup]⟩ (by omega) (by exact Sub.au) (fun w' hw' => hw')
end Go.Proofs.YtlboppiogeaicaaDoor.co
namespace Go.Co
open Go.Eng Go.RowKit
set_option linter.unusedVariables false
set_option linter.unusedSimpArgs false
theorem IntsO.part {w w' : World} {lo : Nat} {l : List Int} {q : Option Addr} {H : List Eng.Item} {S : List World} (h : IntsO w (fun k => lo ≤ k ∧ k < w.heap.size) l q) (hw : Cls H S w') (hs : w ∈ S) (hno : ∀ k, lo ≤ k → NotOwned H k) : IntsO w' (low w') l q :=
  IntsO.mono (fun k hk => Nat.lt_of_lt_of_le hk.2 (hw.kp w hs).size) (IntsO.stab (fun k hk => (hw.kp w hs).block k hk.2 (hno k hk.1).not) h)
theorem IntsO.take {w : World} {O : Nat → Prop} {l : List Int} {q : Option Addr} (h : IntsO w O l q) (i : Nat) : IntsO w O (l.take i) q := fun hl => by
  rw [List.length_take] at hl
  obtain ⟨a, h1, h2, h3⟩ := h (by omega)
  refine ⟨a, h1, h2, fun j v hj => ?_⟩
  unfold ints at hj
  rw [List.map_take] at hj
  by_cases hji : j < i
  · rw [List.getElem?_take_of_lt hji] at hj
    exact h3 j v hj
  · rw [List.getElem?_eq_none (by rw [List.length_take]; omega)] at hj
    cases hj
theorem oneR_zero {e : List Ex} {flat : Bool} {x : Ex} (h : oneE e flat x = 0) : nodeE e x = 0 := by
  unfold oneE at h
  split at h
  · omega
  · exact h
theorem shape_kids {x : Ex} (h : shapeB x = true) : (x.op = 7 ∨ x.op = 13 → x.kids.length = 1 + x.alts.length) ∧ (¬ (x.op = 7 ∨ x.op = 13) → x.alts.length = 0) ∧ (x.op = 5 → x.kids.length = x.binds.length + 1) := by
  unfold shapeB at h
  by_cases h7 : x.op = 7 ∨ x.op = 13
  · rw [if_pos h7] at h
    simp only [Bool.and_eq_true, altsB, decide_eq_true_eq] at h
    exact ⟨fun _ => h.1.1.1.2, fun h8 => absurd h7 h8, fun h5 => by omega⟩
  · rw [if_neg h7] at h
    split at h
    · cases h
    · rename_i k b u hs
      simp only [Bool.and_eq_true, decide_eq_true_eq] at h
      refine ⟨fun h8 => absurd h8 h7, fun _ => h.1.2, fun h5 => ?_⟩
      unfold sh at hs
      simp [h5] at hs
      omega
theorem free_ok {e : List Ex} {P : List Int} {ps : List Int} (ht : IsTree e) (hP : Parents e P) (h0 : 0 < e.length) (h : ∀ (j : Nat) (x : Ex), e[j]? = some x → x.op = 0 → bnd e P x.n j < 0 → x.n ∈ ps) : ∀ n ∈ fv (grow e (e.length - 1)) [], n ∈ ps := fun n hn => by
  obtain ⟨j, x, sc, h1, h2, h3, h4, h5⟩ := (mem_fv ht.down (e.length - 1) (by omega) []).1 hn
  subst h3
  refine h j x h1 h2 ((bnd_neg ht hP x.n (List.getElem?_eq_some_iff.1 h1).1).2 fun sc2 hu => ?_)
  rw [Under.uniq ht hu h4]
  simpa using h5
theorem free_bad {e : List Ex} {P : List Int} (ht : IsTree e) (hP : Parents e P) (h0 : 0 < e.length) {j : Nat} {x : Ex} (hx : e[j]? = some x) (hop : x.op = 0) (hb : bnd e P x.n j < 0) : x.n ∈ fv (grow e (e.length - 1)) [] := by
  have hj := (List.getElem?_eq_some_iff.1 hx).1
  obtain ⟨sc, hu⟩ := ht.root hj
  exact (mem_fv ht.down (e.length - 1) (by omega) []).2 ⟨j, x, sc, hx, hop, rfl, hu, by simpa using (bnd_neg ht hP x.n hj).1 hb sc hu⟩
theorem treeE_tree {e : List Ex} (h : e.length ≤ 4096) (hg : TreeP e) : treeE e = if 400 < high (grow e (e.length - 1)) then 2 else 0 := treeE_ok h hg.1 hg.2.1 hg.2.2
theorem binders_small {l : List Ex} (h : ∀ x ∈ l, Lim x) : (l.flatMap bindersX).length ≤ l.length * 65552 := by
  induction l with
  | nil => simp
  | cons x r ih =>
    have h1 := h x (.head _)
    have h2 := ih fun y hy => h y (.tail _ hy)
    have h3 := flat_len h1.ab
    have h4 := h1.a
    have h5 := h1.b
    have h6 : (bindersX x).length ≤ 65552 := by
      unfold bindersX
      have h8 : (if x.op = 2 ∨ x.op = 4 ∨ x.op = 5 then x.binds else []).length ≤ x.binds.length := by split <;> simp
      rw [List.length_append]
      omega
    rw [List.flatMap_cons, List.length_append, List.length_cons]
    omega
end Go.Co
namespace Go.Proofs.YtlboppiogeaicaaDoor.co
open Go.RowKit Go.Eng Go.Co
set_option linter.unusedVariables false
set_option linter.unusedSimpArgs false
set_option maxRecDepth 100000
theorem BodyFault_calls (es : List (Ex × ExY)) (q qp : Option Addr) (cap cp : Nat) (ps : List Int) (flat : Bool) (w : World) (he : Arr exR w (low w) es q) (hlen : es.length ≤ 9223372036854775807) (hp : IntsO w (low w) ps qp) (hpl : ps.length ≤ 4096) :
    Calls Tryd.prog 38 [.slice q es.length cap, .slice qp ps.length cp, .bool flat].toArray w fun e w' => e = .returned (.int .i64 (bodyE (es.map Prod.fst) ps flat)) ∧ Ext w w' := by
  obtain ⟨e, hee⟩ : ∃ e, es.map Prod.fst = e := ⟨_, rfl⟩
  have hel : e.length = es.length := by rw [← hee, List.length_map]
  rw [hee]
  refine enter Tryd.func38 rfl Tryd.ntmps38 rfl (Cls.start w) ?_
  (simp only [argEnv, Nat.zero_add, Nat.reduceAdd])
  apply W.sr
  apply oas; rfl; rfl
  apply OL.nx
  apply W.seq
  apply W.sr
  apply omv; rfl; rfl
  apply oop; rfl; apply Pev.len_slice; rfl; exact yes; rfl
  apply obn; rfl; rfl; rfl; apply Bin.gtr
  apply OL.nx
  (refine W.cnd (fun hbig => ?_) (fun hbig => ?_)) <;> (try (exfalso; first | omega | exact hbig trivial | contradiction))
  · apply W.sr
    apply oas; rfl; rfl
    apply OL.nx
    refine W.rt ?_
    ((with_reducible apply At.fin1); rfl; rfl; intro w' hw')
    have h2 := treeE_big (e := e) (by omega)
    exact ⟨by rw [bodyE_tree (by rw [h2]; simp), h2], by (exact hw'.fr)⟩
  have hl4 : es.length ≤ 4096 := by omega
  apply W.sk
  apply W.sr
  apply omv; rfl; rfl
  refine OL.callE (α := Option Addr × Nat × Nat × Bool × World) (fun z => .tuple #[.slice z.1 z.2.1 z.2.2.1, .bool z.2.2.2.1]) (fun z => (z.2.2.2.1 = true ↔ TreeP e) ∧ (z.2.2.2.1 = true → z.2.1 = es.length ∧ ∃ P, Parents e P ∧ IntsO z.2.2.2.2 (low z.2.2.2.2) P z.1) ∧ w.heap.size ≤ z.2.2.2.2.heap.size) (fun z => Cls [] [z.2.2.2.2, w]) rfl rfl (by exact Args.au) (fun w2 hw2 => (parentsOf_calls es q cap w2 (he.at hw2 (by exact mau) (fun k hk => by exact NotOwned.au)) hl4).mono (fun e1 w3 ⟨q', n, c, b, h1, h2, h3, h4⟩ => ⟨(q', n, c, b, w3), h1, ⟨by rw [hee] at h3; exact h3, by rw [hee] at h4; exact h4, Nat.le_trans (hw2.kp w (by exact mau)).size h2.size⟩, (hw2.ext h2).note⟩)) ?_
  rintro ⟨qr, n, cr, b, w1⟩ ⟨hbt, hbP, hsz1⟩
  simp only at hbt hbP hsz1 ⊢
  apply omv; rfl; rfl
  apply oex; rfl; rfl; rfl
  apply oex; rfl; rfl; rfl
  apply oas; rfl; rfl
  apply oas; rfl; rfl
  apply OL.nx
  apply W.seq
  apply W.sr
  apply omv; rfl; rfl
  apply oop; rfl; apply Pev.not; rfl; exact yes
  apply OL.nx
  (refine W.cnd (fun hnt => ?_) (fun hnt => ?_)) <;> (try (exfalso; first | omega | exact hnt trivial | contradiction))
  · have hnot : ¬ TreeP e := fun h => by have := hbt.2 h; simp_all
    have h3 : treeE e = 3 := treeE_bad (by omega) hnot
    apply W.sr
    apply oas; rfl; rfl
    apply OL.nx
    refine W.rt ?_
    ((with_reducible apply At.fin1); rfl; rfl; intro w' hw')
    exact ⟨by rw [bodyE_tree (by rw [h3]; simp), h3], by (exact hw'.fr)⟩
  have hb1 : b = true := by simpa using hnt
  have hT : TreeP e := hbt.1 hb1
  obtain ⟨rfl, P, hP, hPI⟩ := hbP hb1
  have ht := hT.tree
  have hpos := hT.1
  have hte := treeE_tree (by omega) hT
  rw [← depths_high ht hP hpos] at hte
  apply W.sk
  apply W.seq
  apply W.sr
  apply omv; rfl; rfl
  apply omv; rfl; rfl
  (((first | (with_reducible apply OL.op) | (with_reducible apply QL.op)); (exact Guard.au); rfl; rfl); (refine Pev.call (v := .int .i64 (depths e P e.length : Int)) rfl (by exact Args.au) (fun _ w2 hw2 => ?_)))
  · have h5 := Depth_calls e q qr cap cr P w2 ht hP (by omega) (hPI.at hw2 (by exact mau) (fun k hk => by exact NotOwned.au))
    rw [hel] at h5 ⊢
    exact h5.mono (fun e w3 h => ⟨h.1, hw2.ext h.2⟩)
  apply obn; rfl; rfl; rfl; apply Bin.gtr
  apply OL.nx
  (refine W.cnd (fun hdeep => ?_) (fun hdeep => ?_)) <;> (try (exfalso; first | omega | exact hdeep trivial | contradiction))
  · rw [if_pos (by omega)] at hte
    apply W.sr
    apply oas; rfl; rfl
    apply OL.nx
    refine W.rt ?_
    ((with_reducible apply At.fin1); rfl; rfl; intro w' hw')
    exact ⟨by rw [bodyE_tree (by rw [hte]; simp), hte], by (exact hw'.fr)⟩
  rw [if_neg (by omega)] at hte
  have hkd : ∀ p ∈ es, ∀ k ∈ p.1.kids, 0 ≤ k ∧ k < (es.length : Int) := fun p hp k hk => by
    obtain ⟨i, hi⟩ := List.getElem?_of_mem hp
    have hx : e[i]? = some p.1 := by rw [← hee, List.getElem?_map, hi]; rfl
    have := ht.down i p.1 hx k hk
    have := (List.getElem?_eq_some_iff.1 hx).1
    omega
  apply W.sk
  apply W.seq
  apply W.sr
  apply omv; rfl; rfl
  apply oop; rfl; apply Pev.len_slice; rfl; exact yes; rfl
  apply omv; rfl; rfl
  apply OL.nx
  apply W.block
  refine W.loop (G := Nat) (fun i => i ≤ es.length ∧ firstE (oneE e flat) (e.drop i) = firstE (oneE e flat) e) (fun i => es.length - i)
    (fun i => [(0, true, .slice q es.length cap), (1, true, .slice qp ps.length cp), (2, true, .bool flat), (7, true, .slice qr es.length cr), (33, true, .slice q es.length cap), (34, true, .int .i64 (es.length : Int)), (35, true, .int .i64 (i : Int))])
    (fun i => Cls [] [w1, w]) 0 ⟨by omega, rfl⟩ (by exact Sub.au) (fun w' hw' => hw') ?_
  rintro i ⟨hi, hrest⟩
  apply W.sr
  apply obn; rfl; rfl; rfl; apply Bin.lss
  apply OL.nx
  apply W.seq
  (refine W.cnd (fun hlt => ?_) (fun hlt => ?_)) <;> (try (exfalso; first | omega | exact hlt trivial | contradiction))
  · have hil : i < es.length := by omega
    obtain ⟨a, p, rfl, hab, hpi, hcell, hok⟩ := he.get hil
    have hab : a.block < w.heap.size := hab
    have hcell : CellsAt w (a.add (i * 5)) [.int .i64 p.1.op, .int .i64 p.1.n, .slice p.2.b.1 p.1.binds.length p.2.b.2, .slice p.2.k.1 p.1.kids.length p.2.k.2, .slice p.2.a.1 p.1.alts.length p.2.a.2] := hcell
    have hx : e[i]? = some p.1 := by rw [← hee, List.getElem?_map, hpi]; rfl
    rw [firstE_drop hx] at hrest
    have hone : oneE e flat p.1 = oneR e flat p.1 := (oneR_eq e flat p.1).symm
    apply W.sk
    apply W.sb
    apply W.sr
    apply oop; rfl; apply Pev.idx; rfl; exact yes; rfl; exact yes; rfl; rfl; intro hcond; omega
    apply oop; rfl; apply Pev.load_keptA; rfl; exact yes; exact .tail _ (.head _); rfl; intro hcond; assumption; rfl; intro hcond; (rw [add_block]; assumption); intro hcond; exact NotOwned.au
    apply OL.alloc; rfl; rfl; exact CellsL.agg; (intro bk hbk; simp only [AllLe, and_true] at hbk)
    apply OL.storeB; rfl; rfl; exact CellsL.agg; rfl; rfl; rfl; exact Swap.au; exact Put.au
    apply OL.nx
    apply W.seq
    apply W.sr
    apply omv; rfl; rfl
    apply oop; rfl; apply Pev.load_blkA; rfl; exact yes; exact .head _; rfl; exact Take.au
    apply omv; rfl; rfl
    (((first | (with_reducible apply OL.op) | (with_reducible apply QL.op)); (exact Guard.au); rfl; rfl); (exact Pev.call rfl (by exact Args.au) (fun _ w2 hw2 => (goodForm_calls es (some a) cap p.1 p.2 flat w2 (hok.at hw2 (by exact mau) (fun k hk => by exact NotOwned.au))).mono (fun e w3 h => ⟨h.1, hw2.ext h.2⟩))))
    apply oop; rfl; apply Pev.not; rfl; exact yes
    apply OL.nx
    (refine W.cnd (fun hgf => ?_) (fun hgf => ?_)) <;> (try (exfalso; first | omega | exact hgf trivial | contradiction))
    · have h3 : oneE e flat p.1 = 3 := by rw [hone]; unfold oneR; rw [if_pos (by cases h1 : flatBad flat p.1.op <;> cases h2 : formR p.1 <;> simp_all)]
      rw [h3] at hrest
      apply W.sr
      apply oas; rfl; rfl
      apply OL.nx
      refine W.rt ?_
      ((with_reducible apply At.fin1); rfl; rfl; intro w' hw')
      exact ⟨by rw [bodyE_one hte (by rw [← hrest]; simp), ← hrest]; simp, by (exact hw'.fr)⟩
    have hgf' : (!flatBad flat p.1.op && formR p.1) = true := by cases h1 : flatBad flat p.1.op <;> cases h2 : formR p.1 <;> simp_all
    have hsh : shapeB p.1 = true := by rw [← formR_eq]; exact (Bool.and_eq_true _ _ ▸ hgf' : _ ∧ _).2
    have hskk := shape_kids hsh
    apply W.sk
    apply W.seq
    apply W.sr
    apply oop; rfl; apply Pev.load_blkA; rfl; exact yes; exact .head _; rfl; exact Take.au
    (((first | (with_reducible apply OL.op) | (with_reducible apply QL.op)); (exact Guard.au); rfl; rfl); (exact Pev.call rfl (by exact Args.au) (fun _ w2 hw2 => (numbersError_calls p.1 p.2 w2 (hok.at hw2 (by exact mau) (fun k hk => by exact NotOwned.au))).mono (fun e w3 h => ⟨h.1, hw2.ext h.2⟩))))
    apply oas; rfl; rfl
    apply OL.nsr
    apply omv; rfl; rfl
    apply obn; rfl; rfl; rfl; apply Bin.neq
    apply OL.nx
    (refine W.cnd (fun hne => ?_) (fun hne => ?_)) <;> (try (exfalso; first | omega | exact hne trivial | contradiction))
    · have h3 : oneE e flat p.1 = numE p.1 := by rw [hone]; unfold oneR; rw [if_neg (by rw [hgf']; simp), if_pos (by simpa using hne)]
      rw [h3, if_neg (by simpa using hne)] at hrest
      apply W.sr
      apply omv; rfl; rfl
      apply oas; rfl; rfl
      apply OL.nx
      refine W.rt ?_
      ((with_reducible apply At.fin1); rfl; rfl; intro w' hw')
      exact ⟨by rw [bodyE_one hte (by rw [← hrest]; simpa using hne), ← hrest], by (exact hw'.fr)⟩
    apply W.sk
    apply W.sr
    apply omv; rfl; rfl
    apply oop; rfl; apply Pev.load_blkA; rfl; exact yes; exact .head _; rfl; exact Take.au
    (((first | (with_reducible apply OL.op) | (with_reducible apply QL.op)); (exact Guard.au); rfl; rfl); (exact Pev.call rfl (by exact Args.au) (fun _ w2 hw2 => (goodKids_calls es (some a) cap p.1 p.2 w2 (hok.at hw2 (by exact mau) (fun k hk => by exact NotOwned.au)) (he.at hw2 (by exact mau) (fun k hk => by exact NotOwned.au)) hl4 (hkd p (List.mem_of_getElem? hpi)) hskk.2.2).mono (fun e w3 h => ⟨h.1, hw2.ext h.2⟩))))
    rw [hee]
    apply oop; rfl; apply Pev.not; rfl; exact yes
    apply OL.nx
    (refine W.cnd (fun hgk => ?_) (fun hgk => ?_)) <;> (try (exfalso; first | omega | exact hgk trivial | contradiction))
    · have h3 : oneE e flat p.1 = 3 := by rw [hone]; unfold oneR; rw [if_neg (by rw [hgf']; simp), if_neg (by simpa using hne), if_pos (by simpa using hgk)]
      rw [h3] at hrest
      apply W.sr
      apply oas; rfl; rfl
      apply OL.nx
      refine W.rt ?_
      ((with_reducible apply At.fin1); rfl; rfl; intro w' hw')
      exact ⟨by rw [bodyE_one hte (by rw [← hrest]; simp), ← hrest]; simp, by (exact hw'.fr)⟩
    have h3 : oneE e flat p.1 = 0 := by rw [hone]; unfold oneR; rw [if_neg (by rw [hgf']; simp), if_neg (by simpa using hne), if_neg (by simpa using hgk)]
    rw [h3, if_pos rfl] at hrest
    apply W.skip
    with_reducible apply At.in_normal
    with_reducible apply At.next
    apply W.reg
    apply obn; rfl; rfl; rfl; apply Bin.add_in; omega
    apply omv; rfl; rfl
    apply OL.nil
    exact At.again (i + 1) ⟨by omega, hrest⟩ (by omega) (by exact Sub.au) (fun w' hw' => hw'.thin (by exact Thin.au))
  obtain rfl : i = es.length := by omega
  rw [← hel, List.drop_length] at hrest
  have hall : firstE (oneE e flat) e = 0 := hrest.symm
  have hzero : ∀ x ∈ e, nodeE e x = 0 ∧ x.kids.length ≤ 4096 := fun x hx => by
    obtain ⟨i, hi⟩ := List.getElem?_of_mem hx
    have h2 := kids_len ht hi
    exact ⟨oneR_zero (firstE_zero.1 hall x hx), by omega⟩
  have hlim : ∀ x ∈ e, Lim x := fun x hx => by
    obtain ⟨h1, h2⟩ := hzero x hx
    obtain ⟨h3, h4⟩ := nodeE_zero h1
    exact lim_of h3 h4 h2
  have hmem : ∀ p ∈ es, p.1 ∈ e := fun p hp => by rw [← hee]; exact List.mem_map_of_mem hp
  have hskk : ∀ p ∈ es, shapeB p.1 = true := fun p hp => (nodeE_zero (hzero p.1 (hmem p hp)).1).1
  clear hrest
  refine W.xt ?_
  with_reducible apply At.next
  apply W.sr
  apply omv; rfl; rfl
  refine OL.cls (C' := Cls [row w1.heap.size (fun _ => False) none 0 0 3 1 []] [w1, w]) (fun w' hw' => hw'.row_nil w1.heap.size 3 1) ?_
  skip
  (apply OL.appendK (news := ints ps)); rfl; rfl; rfl; rfl; (exact Hole.au); (exact fun w2 hw2 => (hp.at hw2 (.tail _ (.head _)) (fun k hk => by exact NotOwned.au)).slAt); (rw [ints_length, Nat.mul_one]); (exact ints_oneL _); (exact ⟨w1, .head _, Nat.le_refl _⟩); (omega); (intro O1 q1 c1)
  simp only [Nat.zero_add, List.nil_append]
  obtain ⟨all, hal⟩ : ∃ f : Nat → List Int, f = fun i => ps ++ (e.take i).flatMap bindersX := ⟨_, rfl⟩
  have hbnd : ∀ i, (all i).length ≤ 4096 + 4096 * 65552 := fun i => by
    have h1 := binders_small (l := e.take i) fun x hx => hlim x (List.mem_of_mem_take hx)
    rw [hal]
    simp only [List.length_append]
    have h2 : (e.take i).length ≤ 4096 := by rw [List.length_take]; omega
    have h3 : (e.take i).length * 65552 ≤ 4096 * 65552 := Nat.mul_le_mul_right _ h2
    omega
  have hall0 : all 0 = ps := by rw [hal]; simp
  have hallE : all es.length = ps ++ e.flatMap bindersX := by rw [hal]; simp only; rw [← hel, List.take_length]
  have hsnoc : ∀ {i : Nat} {x : Ex}, e[i]? = some x → all (i + 1) = all i ++ bindersX x := fun {i x} hx => by
    rw [hal]
    simp only
    rw [List.take_add_one, hx]
    simp
  clear hal
  apply oas; rfl; rfl
  apply OL.nx
  apply W.seq
  apply W.sr
  apply omv; rfl; rfl
  apply oop; rfl; apply Pev.len_slice; rfl; exact yes; rfl
  apply omv; rfl; rfl
  apply OL.nx
  apply W.block
  refine W.loop (G := Nat × GR) (fun g => g.1 ≤ es.length) (fun g => es.length - g.1)
    (fun g => [(0, true, .slice q es.length cap), (1, true, .slice qp ps.length cp), (7, true, .slice qr es.length cr), (12, true, .slice g.2.q (all g.1).length g.2.c), (56, true, .slice q es.length cap), (57, true, .int .i64 (es.length : Int)), (58, true, .int .i64 (g.1 : Int))])
    (fun g => Cls [row w1.heap.size g.2.O g.2.q (all g.1).length g.2.c 3 1 (ints (all g.1))] [w1, w]) (0, ⟨O1, q1, c1⟩) (by simp) (by rw [hall0]; exact Sub.au) (fun w' hw' => by rw [hall0]; exact hw') ?_
  rintro ⟨i, ⟨O2, q2, c2⟩⟩ hi2
  simp only at hi2 ⊢
  apply W.sr
  apply obn; rfl; rfl; rfl; apply Bin.lss
  apply OL.nx
  apply W.seq
  (refine W.cnd (fun hlt2 => ?_) (fun hlt2 => ?_)) <;> (try (exfalso; first | omega | exact hlt2 trivial | contradiction))
  · have hil : i < es.length := by omega
    obtain ⟨a, p, hqa, hab, hpi, hcell, hok⟩ := he.get hil
    have hab : a.block < w.heap.size := hab
    have hcell : CellsAt w (a.add (i * 5)) [.int .i64 p.1.op, .int .i64 p.1.n, .slice p.2.b.1 p.1.binds.length p.2.b.2, .slice p.2.k.1 p.1.kids.length p.2.k.2, .slice p.2.a.1 p.1.alts.length p.2.a.2] := hcell
    have hx : e[i]? = some p.1 := by rw [← hee, List.getElem?_map, hpi]; rfl
    have hL := hlim p.1 (List.mem_of_getElem? hx)
    have hb1 := hbnd i
    have hb2 := hbnd (i + 1)
    rw [hsnoc hx, List.length_append] at hb2
    rw [hqa]
    apply W.sk
    apply W.sb
    apply W.sr
    apply oop; rfl; apply Pev.idx; rfl; exact yes; rfl; exact yes; rfl; rfl; intro hcond; omega
    apply oop; rfl; apply Pev.load_keptA; rfl; exact yes; exact .tail _ (.head _); rfl; intro hcond; assumption; rfl; intro hcond; (rw [add_block]; assumption); intro hcond; exact NotOwned.au
    apply OL.alloc; rfl; rfl; exact CellsL.agg; (intro bk hbk; simp only [AllLe, and_true] at hbk)
    apply OL.storeB; rfl; rfl; exact CellsL.agg; rfl; rfl; rfl; exact Swap.au; exact Put.au
    apply OL.nx
    apply W.reg
    apply omv; rfl; rfl
    apply oop; rfl; apply Pev.load_blkA; rfl; exact yes; exact .head _; rfl; exact Take.au
    refine OL.callE (α := World × Nat × Option Addr × Nat) (fun x => .slice x.2.2.1 (bindersX p.1).length x.2.2.2) (fun x => w1.heap.size ≤ x.1.heap.size ∧ (∀ k, w1.heap.size ≤ k → O2 k → k < x.2.1) ∧ bk < x.2.1 ∧ w1.heap.size ≤ x.2.1 ∧ IntsO x.1 (fun k => x.2.1 ≤ k ∧ k < x.1.heap.size) (bindersX p.1) x.2.2.1) (fun x => Cls [blk bk 28 [.int .i64 p.1.op, .int .i64 p.1.n, .slice p.2.b.1 p.1.binds.length p.2.b.2, .slice p.2.k.1 p.1.kids.length p.2.k.2, .slice p.2.a.1 p.1.alts.length p.2.a.2], row w1.heap.size O2 q2 (all i).length c2 3 1 (ints (all i))] [x.1, w1, w]) rfl rfl (by exact Args.au) (fun w2 hw2 => ?_) ?_
    · have hlt3 := hw2.lt _ (.head _) bk rfl
      have hrow : ∀ k, w1.heap.size ≤ k → O2 k → k < w2.heap.size := fun k h1 h2 => hw2.lt _ (.tail _ (.head _)) k ⟨h1, h2⟩
      have hkw := (hw2.kp w1 (by exact mau)).size
      refine (Binds_calls p.1 p.2 w2 (hok.at hw2 (by exact mau) (fun k hk => by exact NotOwned.au)) hL.b hL.a hL.ab).mono fun e1 w3 ⟨q3, c3, h1, h2, h3, h4⟩ => ?_
      exact ⟨(w3, w2.heap.size, q3, c3), h1, ⟨Nat.le_trans hkw h2.size, hrow, hlt3, hkw, h3⟩, (hw2.ext h2).note⟩
    rintro ⟨w3, lo, q3, c3⟩ ⟨hsz3, hrow, hblo, hwlo, hI3⟩
    simp only at hsz3 hrow hblo hwlo hI3 ⊢
    have hb3 := hsnoc hx
    generalize hbi : bindersX p.1 = bs at *
    (apply OL.appendK (news := ints bs)); rfl; rfl; rfl; rfl; (exact Hole.au); (exact fun w4 hw4 => (hI3.part hw4 (.head _) (fun k hk => NotOwned.blk (by omega) (NotOwned.any (fun hm => by have := hrow k hm.1 hm.2; omega) NotOwned.nil))).slAt); (rw [ints_length, Nat.mul_one]); (exact ints_oneL _); (exact ⟨w1, .tail _ (.head _), Nat.le_refl _⟩); (omega); (intro O4 q4 c4)
    rw [← ints_append, ← List.length_append, ← hb3]
    apply oas; rfl; rfl
    apply OL.nil
    with_reducible apply At.in_normal
    with_reducible apply At.next
    apply W.reg
    apply obn; rfl; rfl; rfl; apply Bin.add_in; omega
    apply omv; rfl; rfl
    apply OL.nil
    refine At.again (i + 1, ⟨O4, q4, c4⟩) (by simp only; omega) (by simp only; omega) (by exact Sub.au) (fun w' hw' => (hw'.forget (by simp)).thin (by exact Thin.au))
  obtain rfl : i = es.length := by omega
  have hb1 := hbnd es.length
  rw [hallE] at hb1 ⊢
  clear hbnd hsnoc hall0
  refine W.exx (X := { x : World // IntsO x (low x) (ps ++ e.flatMap bindersX) q2 ∧ w1.heap.size ≤ x.heap.size ∧ (ps ++ e.flatMap bindersX).length ≤ c2 }) (C' := fun x => Cls [] [x.1, w1, w]) (fun w2 hw2 => ⟨⟨w2, IntsO.mono (fun k hk => hk.2) (rowInts hw2 (.head _) (Nat.le_refl _)), (hw2.kp w1 (by exact mau)).size, row_cap (hw2.item (.head _))⟩, (hw2.thin (Thin.any (fun k hk => ⟨hk.1, Nat.le_trans hsz1 hk.1, trivial⟩) Thin.nil)).note⟩) ?_
  rintro ⟨w5, hI5, hsz5, hcap5⟩
  simp only
  have hbt2 := bodyE_twice (ps := ps) hte hall
  have hbf2 := fun n => bodyE_free (ps := ps) (n := n) hte hall
  have hbo2 := bodyE_ok (ps := ps) hte hall
  generalize ps ++ e.flatMap bindersX = L at *
  refine W.xt ?_
  with_reducible apply At.next
  apply W.seq
  apply W.sr
  apply omv; rfl; rfl
  apply oop; rfl; apply Pev.len_slice; rfl; exact yes; rfl
  apply omv; rfl; rfl
  apply OL.nx
  apply W.block
  refine W.loop (G := Nat) (fun i => i ≤ L.length ∧ (L.take i).Nodup) (fun i => L.length - i)
    (fun i => [(0, true, .slice q es.length cap), (1, true, .slice qp ps.length cp), (7, true, .slice qr es.length cr), (12, true, .slice q2 L.length c2), (67, true, .slice q2 L.length c2), (68, true, .int .i64 (L.length : Int)), (69, true, .int .i64 (i : Int))])
    (fun _ => Cls [] [w5, w1, w]) 0 ⟨by omega, by simp⟩ (by exact Sub.au) (fun w' hw' => hw') ?_
  rintro i ⟨hi, hnd⟩
  apply W.sr
  apply obn; rfl; rfl; rfl; apply Bin.lss
  apply OL.nx
  apply W.seq
  (refine W.cnd (fun hlt3 => ?_) (fun hlt3 => ?_)) <;> (try (exfalso; first | omega | exact hlt3 trivial | contradiction))
  · have hil : i < L.length := by omega
    obtain ⟨a, v, rfl, hab, hv, hcell⟩ := hI5.get hil
    have hab : a.block < w5.heap.size := hab
    have hlT : (L.take i).length = i := by rw [List.length_take]; omega
    have hsplit : L = L.take i ++ v :: L.drop (i + 1) := by
      obtain ⟨h1, rfl⟩ := List.getElem?_eq_some_iff.1 hv
      rw [← List.drop_eq_getElem_cons h1, List.take_append_drop]
    have htake : L.take (i + 1) = L.take i ++ [v] := by rw [List.take_add_one, hv]; rfl
    apply W.sk
    apply W.sb
    apply W.sr
    apply omv; rfl; rfl
    apply oop; rfl; apply Pev.idx; rfl; exact yes; rfl; exact yes; rfl; rfl; intro hcond; omega
    apply oop; rfl; apply Pev.load_kept; rfl; exact yes; exact .head _; rfl; intro hcond; assumption; intro hcond; (rw [add_block]; assumption); intro hcond; exact NotOwned.au
    apply oas; rfl; rfl
    apply oas; rfl; rfl
    apply OL.nsr
    apply omv; rfl; rfl
    apply omv; rfl; rfl
    apply oop; rfl; apply Pev.slice_hi; rfl; exact yes; rfl; exact yes; rfl; rfl; intro hcond; omega
    apply omv; rfl; rfl
    (((first | (with_reducible apply OL.op) | (with_reducible apply QL.op)); (exact Guard.au); rfl; rfl); (refine Pev.call (v := .bool (decide (v ∈ L.take i))) rfl (by exact Args.au) (fun _ w2 hw2 => ?_)))
    · have h5 := In_calls (some a) c2 (L.take i) v w2 (by omega) ((hI5.take i).at hw2 (by exact mau) (fun k hk => by exact NotOwned.au))
      rw [hlT] at h5
      exact h5.mono (fun e w3 h => ⟨h.1, hw2.ext h.2⟩)
    apply OL.nx
    (refine W.cnd (fun hin => ?_) (fun hin => ?_)) <;> (try (exfalso; first | omega | exact hin trivial | contradiction))
    · apply W.sr
      apply oas; rfl; rfl
      apply OL.nx
      refine W.rt ?_
      ((with_reducible apply At.fin1); rfl; rfl; intro w' hw')
      have hnn : ¬ L.Nodup := by
        rw [hsplit]
        exact not_nodup hin
      exact ⟨by rw [hbt2 hnn], by (exact hw'.fr)⟩
    apply W.skip
    with_reducible apply At.in_normal
    with_reducible apply At.next
    apply W.reg
    apply obn; rfl; rfl; rfl; apply Bin.add_in; omega
    apply omv; rfl; rfl
    apply OL.nil
    exact At.again (i + 1) ⟨by omega, by rw [htake]; exact nodup_snoc hnd hin⟩ (by omega) (by exact Sub.au) (fun w' hw' => hw')
  obtain rfl : i = L.length := by omega
  rw [List.take_length] at hnd
  refine W.xt ?_
  with_reducible apply At.next
  apply W.seq
  apply W.sr
  apply omv; rfl; rfl
  apply oop; rfl; apply Pev.len_slice; rfl; exact yes; rfl
  apply omv; rfl; rfl
  apply OL.nx
  apply W.block
  refine W.loop (G := Nat) (fun i => i ≤ es.length ∧ ∀ (j : Nat) (x : Ex), j < i → e[j]? = some x → x.op = 0 → bnd e P x.n j < 0 → x.n ∈ ps) (fun i => es.length - i)
    (fun i => [(0, true, .slice q es.length cap), (1, true, .slice qp ps.length cp), (7, true, .slice qr es.length cr), (80, true, .slice q es.length cap), (81, true, .int .i64 (es.length : Int)), (82, true, .int .i64 (i : Int))])
    (fun _ => Cls [] [w1, w]) 0 ⟨by omega, fun j x hj => by omega⟩ (by exact Sub.au) (fun w' hw' => hw'.forget (by simp)) ?_
  rintro i ⟨hi, hfr⟩
  apply W.sr
  apply obn; rfl; rfl; rfl; apply Bin.lss
  apply OL.nx
  apply W.seq
  (refine W.cnd (fun hlt4 => ?_) (fun hlt4 => ?_)) <;> (try (exfalso; first | omega | exact hlt4 trivial | contradiction))
  · have hil : i < es.length := by omega
    obtain ⟨a, p, hqa, hab, hpi, hcell, hok⟩ := he.get hil
    have hab : a.block < w.heap.size := hab
    have hcell : CellsAt w (a.add (i * 5)) [.int .i64 p.1.op, .int .i64 p.1.n, .slice p.2.b.1 p.1.binds.length p.2.b.2, .slice p.2.k.1 p.1.kids.length p.2.k.2, .slice p.2.a.1 p.1.alts.length p.2.a.2] := hcell
    have hx : e[i]? = some p.1 := by rw [← hee, List.getElem?_map, hpi]; rfl
    rw [hqa]
    apply W.sk
    apply W.sb
    apply W.sr
    apply omv; rfl; rfl
    apply oop; rfl; apply Pev.idx; rfl; exact yes; rfl; exact yes; rfl; rfl; intro hcond; omega
    apply oop; rfl; apply Pev.load_keptA; rfl; exact yes; exact .tail _ (.head _); rfl; intro hcond; assumption; rfl; intro hcond; (rw [add_block]; assumption); intro hcond; exact NotOwned.au
    apply OL.alloc; rfl; rfl; exact CellsL.agg; (intro bk hbk; simp only [AllLe, and_true] at hbk)
    apply oas; rfl; rfl
    apply OL.storeB; rfl; rfl; exact CellsL.agg; rfl; rfl; rfl; exact Swap.au; exact Put.au
    apply OL.nsr
    apply ofa; rfl; rfl; rfl
    apply old; rfl; rfl; exact .head _; rfl; rfl
    apply obn; rfl; rfl; rfl; apply Bin.eql
    apply omv; rfl; rfl
    apply oy; rfl; rfl; rfl; apply Pev.move; rfl; exact yes
    apply oy; rfl; rfl; rfl; apply Pev.move; rfl; exact yes
    apply oy; rfl; rfl; rfl; apply Pev.move; rfl; exact yes
    (((first | (with_reducible apply OL.op) | (with_reducible apply QL.op)); (exact Guard.au); rfl; rfl); (exact Pev.call (v := .int .i64 (bnd e P p.1.n i)) rfl (by exact Args.au) (fun _ w2 hw2 => by
      have h5 := binder_calls es (some a) qr cap cr P i p.1 w2 (hqa ▸ he.at hw2 (by exact mau) (fun k hk => by exact NotOwned.au)) hl4 (by rw [hee]; exact ht) (by rw [hee]; exact hP) (hPI.at hw2 (by exact mau) (fun k hk => by exact NotOwned.au)) (by rw [hee]; exact hx) (fun p hp => (shape_kids (hskk p hp)).1) (fun p hp => (shape_kids (hskk p hp)).2.1)
      rw [hee] at h5
      exact h5.mono (fun e w3 h => ⟨h.1, hw2.ext h.2⟩))))
    apply oy; rfl; rfl; rfl; apply Pev.bin; rfl; exact fun h => h; rfl; exact yes; intro hcond; apply Bin.lss
    apply oop; rfl; apply Pev.pick_and; rfl; exact yes; rfl; exact fun h => h
    apply omv; rfl; rfl
    apply oy; rfl; rfl; rfl; apply Pev.move; rfl; exact yes
    apply oy; rfl; rfl; rfl; apply Pev.fld; rfl; exact yes; rfl
    apply oy; rfl; rfl; rfl; apply Pev.load_blk; rfl; exact fun h => h; exact .head _; rfl; rfl
    (((first | (with_reducible apply OL.op) | (with_reducible apply QL.op)); (exact Guard.au); rfl; rfl); (exact Pev.call rfl (by exact Args.au) (fun _ w2 hw2 => (In_calls qp cp ps p.1.n w2 (by omega) (hp.at hw2 (by exact mau) (fun k hk => by exact NotOwned.au))).mono (fun e w3 h => ⟨h.1, hw2.ext h.2⟩))))
    apply oy; rfl; rfl; rfl; apply Pev.not; rfl; exact fun h => h
    apply oop; rfl; apply Pev.pick_and; rfl; exact yes; rfl; exact fun h => h
    apply OL.nx
    refine W.cond rfl (fun hb => ?_) (fun hb => ?_)
    · simp only [Bool.and_eq_true, decide_eq_true_eq, Bool.not_eq_true', decide_eq_false_iff_not] at hb
      apply W.sr
      apply oas; rfl; rfl
      apply OL.nx
      refine W.rt ?_
      ((with_reducible apply At.fin1); rfl; rfl; intro w' hw')
      exact ⟨by rw [hbf2 p.1.n hnd (free_bad ht hP hpos hx hb.1.1 hb.1.2) hb.2], by (exact hw'.fr)⟩
    · simp only [Bool.and_eq_false_iff, decide_eq_false_iff_not, Bool.not_eq_false', decide_eq_true_eq] at hb
      apply W.skip
      with_reducible apply At.in_normal
      with_reducible apply At.next
      apply W.reg
      apply obn; rfl; rfl; rfl; apply Bin.add_in; omega
      apply omv; rfl; rfl
      apply OL.nil
      refine At.again (i + 1) ⟨by omega, fun j x hj hxj hop hbn => ?_⟩ (by omega) (by exact Sub.au) (fun w' hw' => hw'.thin (by exact Thin.au))
      by_cases ej : j = i
      · subst ej
        rw [hx] at hxj
        obtain rfl := Option.some.inj hxj
        rcases hb with (hb | hb) | hb
        · exact absurd hop hb
        · omega
        · exact hb
      · exact hfr j x (by omega) hxj hop hbn
  · obtain rfl : i = es.length := by omega
    refine W.xt ?_
    with_reducible apply At.next
    apply W.sr
    apply oas; rfl; rfl
    apply OL.nx
    apply W.ret
    ((with_reducible apply At.fin1); rfl; rfl; intro w' hw')
    exact ⟨by rw [hbo2 hnd (free_ok ht hP hpos fun j x hx => hfr j x (by have := (List.getElem?_eq_some_iff.1 hx).1; omega) hx)], by (exact hw'.fr)⟩
theorem Fault_calls (es : List (Ex × ExY)) (q : Option Addr) (cap : Nat) (w : World) (he : Arr exR w (low w) es q) (hlen : es.length ≤ 9223372036854775807) :
    Calls Tryd.prog 12 [.slice q es.length cap].toArray w fun e w' => e = .returned (.int .i64 (bodyE (es.map Prod.fst) [] false)) ∧ Ext w w' := by
  refine enter Tryd.func12 rfl Tryd.ntmps12 rfl (Cls.start w) ?_
  (simp only [argEnv, Nat.zero_add, Nat.reduceAdd])
  apply W.sr
  apply oas; rfl; rfl
  apply OL.nsr
  apply omv; rfl; rfl
  (((first | (with_reducible apply OL.op) | (with_reducible apply QL.op)); (exact Guard.au); rfl; rfl); (exact Pev.call rfl (by exact Args.au) (fun _ w2 hw2 => (BodyFault_calls es q none cap 0 [] false w2 (he.at hw2 (by exact mau) (fun k hk => by exact NotOwned.au)) hlen IntsO.nil (by simp)).mono (fun e w3 h => ⟨h.1, hw2.ext h.2⟩))))
  apply oas; rfl; rfl
  apply OL.nx
  apply W.ret
  ((with_reducible apply At.fin1); rfl; rfl; intro w' hw')
  exact ⟨rfl, by (exact hw'.fr)⟩
end Go.Proofs.YtlboppiogeaicaaDoor.co

/- What a node and what is evaluated below it do (plain), and the walk of purity's Of. Conditions: none. -/
namespace Go.Co
open Go.Eng Go.RowKit
set_option linter.unusedVariables false
set_option linter.unusedSimpArgs false
def snOf (x : Ex) : Sn := ⟨x.op, x.n, x.binds⟩
def exAt (e : List Ex) (k : Nat) : Ex := e.getD k ⟨0, 0, [], [], []⟩
def kidS (e : List Ex) (x : Ex) : List Sn := x.kids.map fun k => snOf (exAt e k.toNat)
def ownX (e : List Ex) (x : Ex) : Int := ownS x.op x.n (kidS e x) x.alts
/-- what kid number m brings in -/
def conAt (e : List Ex) (x : Ex) (m : Nat) : Option Nat :=
  if x.op = 2 ∨ (x.op = 5 ∧ m < x.binds.length) then none
  else if x.op = 3 ∧ m = 0 ∧ (exAt e (x.kids.getD m 0).toNat).op = 2 then some ((exAt e (x.kids.getD m 0).toNat).kids.getD 0 0).toNat
  else some (x.kids.getD m 0).toNat
def conN (e : List Ex) (x : Ex) (m : Nat) : List Nat := (List.range m).filterMap (conAt e x)
def orI (a b : Int) : Int := bits .or .i64 a b
def effE (e : List Ex) (i : Nat) : Int := match e[i]? with
  | none => 0
  | some x => (conN e x x.kids.length).foldl (fun a j => if h : j < i then orI a (effE e j) else a) (ownX e x)
/-- the kids' lists of lambdas hold one place -/
def LamOk (e : List Ex) : Prop := ∀ (i : Nat) (x : Ex), e[i]? = some x → x.op = 2 → x.kids.length = 1
theorem conAt_lt {e : List Ex} (hd : Down e) (hl : LamOk e) {i m j : Nat} {x : Ex} (hx : e[i]? = some x) (hm : m < x.kids.length) (h : conAt e x m = some j) : j < i := by
  have hk : x.kids.getD m 0 = x.kids[m] := by rw [List.getD_eq_getElem?_getD, List.getElem?_eq_getElem hm]; rfl
  have hr := hd i x hx x.kids[m] (List.getElem_mem hm)
  unfold conAt at h
  rw [hk] at h
  split at h
  · cases h
  · split at h
    · rename_i h1
      have hil := (List.getElem?_eq_some_iff.1 hx).1
      have hy : e[(x.kids[m]).toNat]? = some (exAt e (x.kids[m]).toNat) := by
        unfold exAt
        rw [List.getD_eq_getElem?_getD, List.getElem?_eq_getElem (by omega)]
        rfl
      have hl1 := hl _ _ hy h1.2.2
      have hk2 : (exAt e (x.kids[m]).toNat).kids.getD 0 0 = (exAt e (x.kids[m]).toNat).kids[0] := by rw [List.getD_eq_getElem?_getD, List.getElem?_eq_getElem (by omega)]; rfl
      have hr2 := hd _ _ hy _ (List.getElem_mem (show 0 < (exAt e (x.kids[m]).toNat).kids.length by omega))
      rw [hk2] at h
      have := Option.some.inj h
      omega
    · have := Option.some.inj h
      omega
theorem conN_succ {e : List Ex} {x : Ex} {m : Nat} : conN e x (m + 1) = conN e x m ++ (conAt e x m).toList := by
  unfold conN
  rw [List.range_succ, List.filterMap_append]
  cases h : conAt e x m <;> simp [h]
/-- the effects so far: of m kids -/
def effP (e : List Ex) (x : Ex) (m : Nat) : Int := (conN e x m).foldl (fun a j => orI a (effE e j)) (ownX e x)
theorem effP_succ {e : List Ex} {x : Ex} {m : Nat} : effP e x (m + 1) = match conAt e x m with
    | none => effP e x m
    | some j => orI (effP e x m) (effE e j) := by
  unfold effP
  rw [conN_succ, List.foldl_append]
  cases conAt e x m <;> rfl
theorem effE_eq {e : List Ex} (hd : Down e) (hl : LamOk e) {i : Nat} {x : Ex} (hx : e[i]? = some x) : effE e i = effP e x x.kids.length := by
  rw [effE, hx]
  unfold effP
  have hall : ∀ j ∈ conN e x x.kids.length, j < i := fun j hj => by
    obtain ⟨m, hm, hc⟩ := List.mem_filterMap.1 hj
    exact conAt_lt hd hl hx (List.mem_range.1 hm) hc
  simp only
  generalize ownX e x = a0
  generalize conN e x x.kids.length = l at hall
  induction l generalizing a0 with
  | nil => rfl
  | cons j r ih =>
    rw [List.foldl_cons, List.foldl_cons, dif_pos (hall j (.head _))]
    exact ih _ fun k hk => hall k (.tail _ hk)
/-! ### Six bits -/
def Six (a : Int) : Prop := 0 ≤ a ∧ a ≤ 63
theorem or_fin : ∀ a b : Fin 64, (0 ≤ orI (a.val : Int) (b.val : Int) ∧ orI (a.val : Int) (b.val : Int) ≤ 63) ∧ orI 0 (b.val : Int) = (b.val : Int) ∧ orI (a.val : Int) 0 = (a.val : Int) ∧ orI 63 (b.val : Int) = 63 := by decide +kernel
theorem Six.or {a b : Int} (ha : Six a) (hb : Six b) : Six (orI a b) ∧ orI 0 b = b ∧ orI a 0 = a ∧ orI 63 b = 63 := by
  obtain ⟨x, rfl⟩ : ∃ x : Nat, a = (x : Int) := ⟨a.toNat, by have := ha.1; omega⟩
  obtain ⟨y, rfl⟩ : ∃ y : Nat, b = (y : Int) := ⟨b.toNat, by have := hb.1; omega⟩
  exact or_fin ⟨x, by have := ha.2; omega⟩ ⟨y, by have := hb.2; omega⟩
theorem six_lit {a : Int} (h : a = 0 ∨ a = 2 ∨ a = 3 ∨ a = 6 ∨ a = 10 ∨ a = 18 ∨ a = 63) : Six a := by unfold Six; omega
theorem ownS_six (op n : Int) (ks : List Sn) (alts : List Al) : Six (ownS op n ks alts) := by
  unfold ownS primS
  repeat' split
  all_goals exact six_lit (by simp)
theorem effP_six {e : List Ex} {x : Ex} {m : Nat} (h : ∀ j, j ∈ conN e x m → Six (effE e j)) : Six (effP e x m) := by
  unfold effP
  have h0 : Six (ownX e x) := ownS_six _ _ _ _
  generalize ownX e x = a0 at h0
  generalize conN e x m = l at h
  induction l generalizing a0 with
  | nil => exact h0
  | cons j r ih => first | exact ih _ (Six.or h0 (h j (.head _))).1 (fun k hk => h k (.tail _ hk)) | exact ih (fun k hk => h k (.tail _ hk)) (Six.or h0 (h j (.head _))).1 | exact ih _ (fun k hk => h k (.tail _ hk)) (Six.or h0 (h j (.head _))).1
theorem effE_six {e : List Ex} (hd : Down e) (hl : LamOk e) : ∀ (i : Nat), Six (effE e i) := by
  intro i
  induction i using Nat.strongRecOn with
  | _ i ih =>
    cases hx : e[i]? with
    | none => rw [effE, hx]; exact six_lit (.inl rfl)
    | some x =>
      rw [effE_eq hd hl hx]
      refine effP_six fun j hj => ?_
      obtain ⟨m, hm, hc⟩ := List.mem_filterMap.1 hj
      exact ih j (conAt_lt hd hl hx (List.mem_range.1 hm) hc)
end Go.Co

/- The reference's small builder of expressions: nodes in memory, and their list. Conditions: none. (Printed by nt.py.) -/
namespace Go.Eng
variable {α μ : Type} {R : Rel α μ} {O : Nat → Prop} {l : List (α × μ)}
/-- what another item owns comes to the finished things, with a thing that lies there -/
theorem Cls.pool_take {B : Nat} {j : Item} {H : List Item} {S : List World} {w : World} {x : α} {y : μ} (h : Cls (j :: pool R B O l :: H) S w) (hj : ∀ k, j.own k → B ≤ k) (hx : R.ok w (fun k => B ≤ k ∧ (O k ∨ j.own k)) x y) :
    Cls (pool R B (fun k => O k ∨ j.own k) (l ++ [(x, y)]) :: H) S w := by
  have hd := List.pairwise_cons.1 h.dj
  have hd2 := List.pairwise_cons.1 hd.2
  have hp := h.holds _ (.tail _ (.head _))
  refine ⟨fun i hi => ?_, fun i hi k hk => ?_, List.pairwise_cons.2 ⟨fun i hi k hk hik => ?_, hd2.2⟩, fun s hs => (h.kp s hs).mono ?_⟩
  · rcases List.mem_cons.1 hi with rfl | hi
    · intro z hz
      rcases List.mem_append.1 hz with hz | hz
      · exact R.mono (fun k hk => ⟨hk.1, .inl hk.2⟩) (hp z hz)
      · obtain rfl := List.mem_singleton.1 hz
        exact hx
    · exact h.holds i (.tail _ (.tail _ hi))
  · rcases List.mem_cons.1 hi with rfl | hi
    · obtain ⟨h0, h1⟩ : B ≤ k ∧ (O k ∨ j.own k) := hk
      rcases h1 with h1 | h1
      · exact h.lt _ (.tail _ (.head _)) k ⟨h0, h1⟩
      · exact h.lt _ (.head _) k h1
    · exact h.lt i (.tail _ (.tail _ hi)) k hk
  · obtain ⟨h0, h1⟩ : B ≤ k ∧ (O k ∨ j.own k) := hk
    rcases h1 with h1 | h1
    · exact hd2.1 i hi k ⟨h0, h1⟩ hik
    · exact hd.1 i (.tail _ hi) k h1 hik
  · rintro k _ ⟨i, hi, hk⟩
    rcases List.mem_cons.1 hi with rfl | hi
    · exact ⟨_, .head _, hj k hk, .inr hk⟩
    · rcases List.mem_cons.1 hi with rfl | hi
      · exact ⟨_, .head _, hk.1, .inl hk.2⟩
      · exact ⟨i, .tail _ hi, hk⟩
end Go.Eng
namespace Go.Co
open Go.Eng Go.RowKit
set_option linter.unusedVariables false
set_option linter.unusedSimpArgs false
/-! ### a tree as a list -/
mutual
def lay : Tr → Nat → List Ex
  | .mk op n binds kids alts, s => lays kids s ++ [⟨op, n, binds, roots kids s, alts⟩]
def lays : List Tr → Nat → List Ex
  | [], _ => []
  | t :: r, s => lay t s ++ lays r (s + tsz t)
def roots : List Tr → Nat → List Int
  | [], _ => []
  | t :: r, s => (((s + tsz t : Nat) : Int) - 1) :: roots r (s + tsz t)
end
mutual
theorem lay_len : ∀ (t : Tr) (s : Nat), (lay t s).length = tsz t
  | .mk op n binds kids alts, s => by simp only [lay, tsz, List.length_append, List.length_singleton, lays_len kids s]
theorem lays_len : ∀ (ts : List Tr) (s : Nat), (lays ts s).length = tszs ts
  | [], _ => rfl
  | t :: r, s => by simp only [lays, tszs, List.length_append, lay_len t s, lays_len r _]
end
theorem lays_take : ∀ {ts : List Tr} {j s : Nat} {t : Tr}, ts[j]? = some t → lays (ts.take (j + 1)) s = lays (ts.take j) s ++ lay t (s + tszs (ts.take j))
  | [], _, _, _, h => by simp at h
  | u :: r, 0, s, t, h => by
    simp at h; subst h
    simp [lays, tszs]
  | u :: r, j + 1, s, t, h => by
    have ih := lays_take (ts := r) (j := j) (s := s + tsz u) (t := t) (by simpa using h)
    simp only [List.take_succ_cons, lays, tszs, ih, List.append_assoc, Nat.add_assoc]
theorem roots_take : ∀ {ts : List Tr} {j s : Nat} {t : Tr}, ts[j]? = some t → roots (ts.take (j + 1)) s = roots (ts.take j) s ++ [((s + tszs (ts.take j) + tsz t : Nat) : Int) - 1]
  | [], _, _, _, h => by simp at h
  | u :: r, 0, s, t, h => by
    simp at h; subst h
    simp only [List.take_succ_cons, List.take_zero, roots, tszs, Nat.add_zero, List.nil_append]
  | u :: r, j + 1, s, t, h => by
    have ih := roots_take (ts := r) (j := j) (s := s + tsz u) (t := t) (by simpa using h)
    simp only [List.take_succ_cons, roots, tszs, ih, List.cons_append, Nat.add_assoc]
theorem roots_len : ∀ (ts : List Tr) (s : Nat), (roots ts s).length = ts.length
  | [], _ => rfl
  | t :: r, s => by rw [roots, List.length_cons, roots_len, List.length_cons]
/-! ### nodes in memory -/
structure NdOk (w : World) (op n : Int) (binds : List Int) (kl : Nat) (alts : List Al) (y : ExY) : Prop where
  op : I64 op
  n : I64 n
  bl : binds.length ≤ 16
  al : alts.length ≤ 4096
  kl : kl ≤ 4096
  bc : binds.length ≤ y.b.2
  ac : alts.length ≤ y.a.2
  b : IntsO w (low w) binds y.b.1
  a : ArrP altR_ w (low w) alts y.a.1
mutual
def NodO (w : World) : Tr → Nat → Prop
  | .mk op n binds kids alts, b => ∃ y : ExY, b < w.heap.size ∧ CellsAt w ⟨b, 0, none⟩ [.int .i64 op, .int .i64 n, .slice y.b.1 binds.length y.b.2, .slice none 0 0, .slice y.a.1 alts.length y.a.2, .slice y.k.1 kids.length y.k.2] ∧ NdOk w op n binds kids.length alts y ∧ (0 < kids.length → ∃ a, y.k.1 = some a ∧ a.block < w.heap.size ∧ NodsO w kids a)
def NodsO (w : World) : List Tr → Addr → Prop
  | [], _ => True
  | t :: r, a => (∃ b, w.cell? a = some (.pointer (some ⟨b, 0, none⟩)) ∧ NodO w t b) ∧ NodsO w r (a.add 1)
end
mutual
theorem NodO.ext {w w' : World} (hs : w.heap.size ≤ w'.heap.size) (hk : ∀ k, k < w.heap.size → w'.heap[k]? = w.heap[k]?) : ∀ {t : Tr} {b : Nat}, NodO w t b → NodO w' t b
  | .mk op n binds kids alts, b, h => by
    simp only [NodO] at h ⊢
    obtain ⟨y, h1, h2, h3, h4⟩ := h
    refine ⟨y, by omega, cells_stab (hk _ h1) h2, ⟨h3.op, h3.n, h3.bl, h3.al, h3.kl, h3.bc, h3.ac, (h3.b.stab hk).mono fun k hk => Nat.lt_of_lt_of_le hk hs, (h3.a.stab hk).mono fun k hk => Nat.lt_of_lt_of_le hk hs⟩, fun hl => ?_⟩
    obtain ⟨a, ha, hb, hall⟩ := h4 hl
    exact ⟨a, ha, by omega, NodsO.ext hs hk hb hall⟩
theorem NodsO.ext {w w' : World} (hs : w.heap.size ≤ w'.heap.size) (hk : ∀ k, k < w.heap.size → w'.heap[k]? = w.heap[k]?) : ∀ {ts : List Tr} {a : Addr}, a.block < w.heap.size → NodsO w ts a → NodsO w' ts a
  | [], _, _, _ => by simp only [NodsO]
  | t :: r, a, hb, h => by
    simp only [NodsO] at h ⊢
    obtain ⟨⟨b, h1, h2⟩, h3⟩ := h
    exact ⟨⟨b, by rw [cell_heap (hk _ hb)]; exact h1, NodO.ext hs hk h2⟩, NodsO.ext hs hk (by rw [add_block]; exact hb) h3⟩
end
theorem NodO.at {w w' : World} {t : Tr} {b : Nat} {H : List Eng.Item} {S : List World} (h : NodO w t b) (hw : Cls H S w') (hs : w ∈ S) (hno : ∀ k, k < w.heap.size → NotOwned H k) : NodO w' t b :=
  h.ext (hw.kp w hs).size (hw.same hs hno)
theorem NodsO.get {w : World} : ∀ {ts : List Tr} {a : Addr} {i : Nat} {t : Tr}, NodsO w ts a → ts[i]? = some t → ∃ b, w.cell? (a.add (i * 1)) = some (.pointer (some ⟨b, 0, none⟩)) ∧ NodO w t b
  | [], _, _, _, _, h => by simp at h
  | u :: r, a, 0, t, h, hi => by
    simp only [NodsO] at h
    simp at hi; subst hi
    obtain ⟨b, h1, h2⟩ := h.1
    exact ⟨b, by rw [Nat.zero_mul, add_zero_]; exact h1, h2⟩
  | u :: r, a, i + 1, t, h, hi => by
    simp only [NodsO] at h
    obtain ⟨b, h1, h2⟩ := NodsO.get (i := i) h.2 (by simpa using hi)
    rw [add_add] at h1
    exact ⟨b, by rwa [show 1 + i * 1 = (i + 1) * 1 by omega] at h1, h2⟩
/-- a node of the list whose identifiers and alternatives lie in older memory -/
structure ExSOk (s0 w : World) (O : Nat → Prop) (x : Ex) (y : ExY) : Prop where
  n : NdOk s0 x.op x.n x.binds x.kids.length x.alts y
  kc : x.kids.length ≤ y.k.2
  k : IntsO w O x.kids y.k.1
def exS (s0 : World) : Rel Ex ExY where
  sz := 5
  pos := by decide
  cells := exC
  ok := ExSOk s0
  len := fun _ _ => rfl
  stab := fun hk h => ⟨h.n, h.kc, h.k.stab hk⟩
  mono := fun hk h => ⟨h.n, h.kc, h.k.mono hk⟩
theorem ExSOk.ok {s0 w : World} {x : Ex} {y : ExY} (h : ExSOk s0 w (low w) x y) (hs : s0.heap.size ≤ w.heap.size) (hk : ∀ k, k < s0.heap.size → w.heap[k]? = s0.heap[k]?) : ExOk w (low w) x y :=
  ⟨h.n.op, h.n.n, by have := h.n.bl; omega, by have := h.n.kl; omega, by have := h.n.al; omega, h.n.bc, h.kc, h.n.ac, (h.n.b.stab hk).mono fun k hk => Nat.lt_of_lt_of_le hk hs, h.k, (h.n.a.stab hk).mono fun k hk => Nat.lt_of_lt_of_le hk hs⟩
structure ST where
  l : List (Ex × ExY)
  O : Nat → Prop
  O2 : Nat → Prop
  q : Option Addr
  c : Nat
def ST.dummy (st : ST) (l : List Ex) : ST := ⟨st.l ++ l.map fun x => (x, ⟨(none, 0), (none, 0), (none, 0)⟩), fun _ => False, fun _ => False, none, 0⟩
theorem ST.dummy_map (st : ST) (l : List Ex) : (st.dummy l).l.map Prod.fst = st.l.map Prod.fst ++ l := by
  unfold ST.dummy
  rw [List.map_append, List.map_map]
  congr 1
  simp [Function.comp_def]
structure XI (S : List World) (st1 : ST) (t : Tr) where
  st : ST
  hst : st.l.map Prod.fst = st1.l.map Prod.fst ++ lay t st1.l.length
  b1 : Nat
  hb1 : AllLe S b1
  g1 : Nat
  c1 : Nat
  O1 : Nat → Prop
  old : Nat → Value
end Go.Co
namespace Go.Proofs.YtlboppiogeaicaaDoor.co
open Go.RowKit Go.Eng Go.Co
set_option linter.unusedVariables false
set_option linter.unusedSimpArgs false
set_option maxRecDepth 100000
set_option maxHeartbeats 1000000 in
theorem into_calls (s0 : World) (bo : Nat) (hbo : s0.heap.size ≤ bo) :
    ∀ (m : Nat) (t : Tr) (b : Nat) (st : ST) (H : List Eng.Item) (S : List World) (w : World), tsz t ≤ m → NodO s0 t b → st.l.length + tsz t ≤ 100000 → (∀ k, k < s0.heap.size → NotOwned H k) →
      Cls (blk bo 22 [.slice st.q st.l.length st.c] :: row s0.heap.size st.O st.q st.l.length st.c 28 5 (cat (exS s0).c st.l) :: pool (exS s0) s0.heap.size st.O2 st.l :: H) (s0 :: S) w →
      Calls Tryd.prog 42 [.pointer (some ⟨b, 0, none⟩), .pointer (some ⟨bo, 0, none⟩)].toArray w fun e w' => ∃ st' : ST, e = .returned (.int .i64 ((st'.l.length : Int) - 1)) ∧ st'.l.map Prod.fst = st.l.map Prod.fst ++ lay t st.l.length ∧ Cls (blk bo 22 [.slice st'.q st'.l.length st'.c] :: row s0.heap.size st'.O st'.q st'.l.length st'.c 28 5 (cat (exS s0).c st'.l) :: pool (exS s0) s0.heap.size st'.O2 st'.l :: H) (s0 :: S) w' := by
  intro m
  induction m with
  | zero =>
    intro t b st H S w hm
    obtain ⟨op, n, binds, kids, alts⟩ := t
    simp only [tsz] at hm
    omega
  | succ m ih =>
  intro t b st H S w hm ht hlen hno hc
  obtain ⟨op, n, binds, kids, alts⟩ := t
  simp only [NodO] at ht
  obtain ⟨y, hbs, hcells, hN, hks⟩ := ht
  have hcellI : ∀ {j : Nat} {v : Value}, ([.int .i64 op, .int .i64 n, .slice y.b.1 binds.length y.b.2, .slice none 0 0, .slice y.a.1 alts.length y.a.2, .slice y.k.1 kids.length y.k.2] : List Value)[j]? = some v → s0.cell? ⟨b, 0 + j, none⟩ = some v := fun {j v} hj => by
    have := hcells j v hj
    rwa [add_mid] at this
  have h5 : s0.cell? ⟨b, 0 + 5, none⟩ = some (.slice y.k.1 kids.length y.k.2) := hcellI (j := 5) rfl
  have hX : CellsAt s0 ⟨b, 0 + 0, none⟩ [.int .i64 op, .int .i64 n, .slice y.b.1 binds.length y.b.2, .slice none 0 0, .slice y.a.1 alts.length y.a.2] := fun j v hj => by
    have hj5 := (List.getElem?_eq_some_iff.1 hj).1
    have h9 : s0.cell? ⟨b, 0 + j, none⟩ = some v := hcellI (by
      rw [← hj]
      match j, hj5 with
      | 0, _ => rfl
      | 1, _ => rfl
      | 2, _ => rfl
      | 3, _ => rfl
      | 4, _ => rfl)
    rw [add_mid]
    simpa using h9
  simp only [tsz] at hm hlen
  have hkl := hN.kl
  refine enter Tryd.func42 rfl Tryd.ntmps42 rfl hc ?_
  (simp only [argEnv, Nat.zero_add, Nat.reduceAdd])
  apply W.sr
  apply oas; rfl; rfl
  apply OL.nsr
  apply omv; rfl; rfl
  apply oop; rfl; apply Pev.nil_ptr; rfl; exact yes
  apply ofa; rfl; rfl; rfl
  apply oop; rfl; apply Pev.load_keptA; rfl; exact yes; exact .head _; rfl; intro hcond; assumption; rfl; intro hcond; assumption; intro hcond; exact NotOwned.au
  apply OL.alloc; rfl; rfl; exact CellsL.agg; (intro bk hbk; simp only [AllLe, and_true] at hbk)
  apply OL.storeB; rfl; rfl; exact CellsL.agg; rfl; rfl; rfl; exact Swap.au; exact Put.au
  apply OL.nsr
  apply ofa; rfl; rfl; rfl
  apply OL.storeB; rfl; rfl; exact CellsL.one rfl; rfl; rfl; rfl; exact Swap.au; exact Put.au
  apply OL.nx
  apply W.seq
  apply W.sr
  apply omv; rfl; rfl
  apply oop; rfl; apply Pev.nil_ptr; rfl; exact yes
  apply ofa; rfl; rfl; rfl
  apply oop; rfl; apply Pev.load_kept; rfl; exact yes; exact .head _; rfl; intro hcond; assumption; intro hcond; assumption; intro hcond; exact NotOwned.au
  apply oop; rfl; apply Pev.len_slice; rfl; exact yes; rfl
  apply omv; rfl; rfl
  apply OL.nx
  apply W.block
  revert bk
  intro bx hbx
  have hbx0 : s0.heap.size ≤ bx := hbx.1
  obtain ⟨m0, hm0⟩ : ∃ m0, m0 = st.l.length := ⟨_, rfl⟩
  refine W.loop (G := Nat × ST × GR) (fun g => g.1 ≤ kids.length ∧ g.2.1.l.map Prod.fst = st.l.map Prod.fst ++ lays (kids.take g.1) m0) (fun g => kids.length - g.1)
    (fun g => [(1, true, .pointer (some ⟨bo, 0, none⟩)), (5, true, .pointer (some ⟨bx, 0, none⟩)), (16, true, .slice y.k.1 kids.length y.k.2), (17, true, .int .i64 (kids.length : Int)), (18, true, .int .i64 (g.1 : Int))])
    (fun g => Cls (row s0.heap.size g.2.2.O g.2.2.q g.1 g.2.2.c 3 1 (ints (roots (kids.take g.1) m0)) :: blk bx 28 [.int .i64 op, .int .i64 n, .slice y.b.1 binds.length y.b.2, .slice g.2.2.q g.1 g.2.2.c, .slice y.a.1 alts.length y.a.2] :: blk bo 22 [.slice g.2.1.q g.2.1.l.length g.2.1.c] :: row s0.heap.size g.2.1.O g.2.1.q g.2.1.l.length g.2.1.c 28 5 (cat (exS s0).c g.2.1.l) :: pool (exS s0) s0.heap.size g.2.1.O2 g.2.1.l :: H) (s0 :: S)) (0, st, ⟨fun _ => False, none, 0⟩) ⟨by simp, by simp [lays]⟩ (by exact Sub.au) (fun w' hw' => hw'.row_nil s0.heap.size 3 1) ?_
  rintro ⟨j, st1, ⟨Ok, qk, ck⟩⟩ ⟨hj, hst1⟩
  simp only at hj hst1 ⊢
  have hl1 : st1.l.length = m0 + tszs (kids.take j) := by
    have := congrArg List.length hst1
    rw [List.length_map, List.length_append, List.length_map, lays_len, ← hm0] at this
    exact this
  have htake := tszs_take_le (ts := kids) (i := j)
  apply W.sr
  apply obn; rfl; rfl; rfl; apply Bin.lss
  apply OL.nx
  apply W.seq
  (refine W.cnd (fun hlt => ?_) (fun hlt => ?_)) <;> (try (exfalso; first | omega | exact hlt trivial | contradiction))
  · have hjl : j < kids.length := by omega
    obtain ⟨a, hqa, hab, hnods⟩ := hks (by omega)
    have hki : kids[j]? = some kids[j] := List.getElem?_eq_getElem hjl
    obtain ⟨b', hcb, hkid⟩ := hnods.get hki
    have h1 := tszs_take_succ hki
    have h2 := tszs_take_le (ts := kids) (i := j + 1)
    rw [hqa]
    apply W.sk
    apply W.sb
    apply W.sr
    apply oop; rfl; apply Pev.idx; rfl; exact yes; rfl; exact yes; rfl; rfl; intro hcond; omega
    apply oop; rfl; apply Pev.load_kept; rfl; exact yes; exact .head _; rfl; intro hcond; assumption; intro hcond; (rw [add_block]; assumption); intro hcond; exact NotOwned.au
    apply oas; rfl; rfl
    apply OL.nx
    refine W.regany (X := XI (s0 :: S) st1 kids[j]) (fun x e => [(29, true, bif e 7 then .pointer (some ⟨bx, 0 + 3, none⟩) else x.old 29), (28, true, bif e 6 then .slice (some ⟨x.g1, 0, none⟩) (j + 1) x.c1 else x.old 28), (27, true, bif e 5 then .slice (some ⟨x.b1, 0, none⟩) 1 1 else x.old 27), (26, true, bif e 4 then .int .i64 ((x.st.l.length : Int) - 1) else x.old 26), (25, true, bif e 3 then .pointer (some ⟨bo, 0, none⟩) else x.old 25), (24, true, bif e 2 then .pointer (some ⟨b', 0, none⟩) else x.old 24), (23, true, bif e 1 then .slice qk j ck else x.old 23), (22, true, bif e 0 then .pointer (some ⟨bx, 0 + 3, none⟩) else x.old 22), (1, true, .pointer (some ⟨bo, 0, none⟩)), (5, true, .pointer (some ⟨bx, 0, none⟩)), (7, true, .pointer (some ⟨b', 0, none⟩)), (16, true, .slice (some a) kids.length y.k.2), (17, true, .int .i64 (kids.length : Int)), (18, true, .int .i64 (j : Int))])
      (fun x e => (bif e 6 then row s0.heap.size x.O1 (some ⟨x.g1, 0, none⟩) (j + 1) x.c1 3 1 (ints (roots (kids.take j) m0) ++ [.int .i64 ((x.st.l.length : Int) - 1)]) else row s0.heap.size Ok qk j ck 3 1 (ints (roots (kids.take j) m0))) :: (blk bx 28 [.int .i64 op, .int .i64 n, .slice y.b.1 binds.length y.b.2, bif e 8 then .slice (some ⟨x.g1, 0, none⟩) (j + 1) x.c1 else .slice qk j ck, .slice y.a.1 alts.length y.a.2]) :: (bif e 4 then blk bo 22 [.slice x.st.q x.st.l.length x.st.c] else blk bo 22 [.slice st1.q st1.l.length st1.c]) :: (bif e 4 then row s0.heap.size x.st.O x.st.q x.st.l.length x.st.c 28 5 (cat (exS s0).c x.st.l) else row s0.heap.size st1.O st1.q st1.l.length st1.c 28 5 (cat (exS s0).c st1.l)) :: (bif e 4 then pool (exS s0) s0.heap.size x.st.O2 x.st.l else pool (exS s0) s0.heap.size st1.O2 st1.l) :: (bif e 5 then blk x.b1 3 [.int .i64 ((x.st.l.length : Int) - 1)] else nothing) :: H)
      (fun old => ⟨st1.dummy (lay kids[j] st1.l.length), ST.dummy_map _ _, w.heap.size, AllLe.mk hc, 0, 0, fun _ => False, old⟩) (by kernel_rfl) (by kernel_rfl) (fun w hw => hw.drew) (fun old => by repeat (first | exact SubO.nil | apply SubO.cons rfl | refine SubO.old rfl ?_)) (fun old w' hw' => (hw'.nothing_cons).mv (A := [_]) (I := [_, _, _, _, _])) ?_ ?_
    · intro x e i o ho hei hd hcl
      have hi : i < 9 := (List.getElem?_eq_some_iff.1 ho).1
      obtain rfl | rfl | rfl | rfl | rfl | rfl | rfl | rfl | rfl : i = 0 ∨ i = 1 ∨ i = 2 ∨ i = 3 ∨ i = 4 ∨ i = 5 ∨ i = 6 ∨ i = 7 ∨ i = 8 := by omega
      · cases ho
        have v0 : Eng.upd e 0 0 = true := upd_eq
        simp only [hei, cond_true, cond_false]
        apply ofa; rfl; rfl; rfl
        apply OL.nil
        exact At.beside x (by repeat (first | exact Sub.nil | apply Sub.cons rfl | refine Sub.cons_eq rfl (by simp only [v0, cond_true, cond_false]) ?_)) (fun w' hw' => by first | exact hw' | (simp only [v0, cond_true, cond_false]; exact hw'))
      · cases ho
        have h0 : e 0 = true := hd ⟨0, .data⟩ (by simp) rfl
        have h8 : e 8 = false := hcl.not (i := 1) (j := 8) rfl hei (by kernel_rfl)
        have v1 : Eng.upd e 1 1 = true := upd_eq
        have v0 : Eng.upd e 1 0 = true := upd_mono h0
        have v8 : Eng.upd e 1 8 = false := h8
        simp only [hei, h0, h8, cond_true, cond_false]
        apply old; rfl; rfl; exact .tail _ (.head _); rfl; rfl
        apply OL.nil
        exact At.beside x (by repeat (first | exact Sub.nil | apply Sub.cons rfl | refine Sub.cons_eq rfl (by simp only [v1, v0, v8, cond_true, cond_false]) ?_)) (fun w' hw' => by first | exact hw' | (simp only [v1, v0, v8, cond_true, cond_false]; exact hw'))
      · cases ho
        have v2 : Eng.upd e 2 2 = true := upd_eq
        simp only [hei, cond_true, cond_false]
        apply omv; rfl; rfl
        apply OL.nil
        exact At.beside x (by repeat (first | exact Sub.nil | apply Sub.cons rfl | refine Sub.cons_eq rfl (by simp only [v2, cond_true, cond_false]) ?_)) (fun w' hw' => by first | exact hw' | (simp only [v2, cond_true, cond_false]; exact hw'))
      · cases ho
        have v3 : Eng.upd e 3 3 = true := upd_eq
        simp only [hei, cond_true, cond_false]
        apply omv; rfl; rfl
        apply OL.nil
        exact At.beside x (by repeat (first | exact Sub.nil | apply Sub.cons rfl | refine Sub.cons_eq rfl (by simp only [v3, cond_true, cond_false]) ?_)) (fun w' hw' => by first | exact hw' | (simp only [v3, cond_true, cond_false]; exact hw'))
      · cases ho
        have h2 : e 2 = true := hd ⟨2, .data⟩ (by simp) rfl
        have h3 : e 3 = true := hd ⟨3, .data⟩ (by simp) rfl
        have h5 : e 5 = false := hcl.not (i := 4) (j := 5) rfl hei (by kernel_rfl)
        have h6 : e 6 = false := hcl.not (i := 4) (j := 6) rfl hei (by kernel_rfl)
        have h8 : e 8 = false := hcl.not (i := 4) (j := 8) rfl hei (by kernel_rfl)
        have v4 : Eng.upd e 4 4 = true := upd_eq
        have v2 : Eng.upd e 4 2 = true := upd_mono h2
        have v3 : Eng.upd e 4 3 = true := upd_mono h3
        have v5 : Eng.upd e 4 5 = false := h5
        have v6 : Eng.upd e 4 6 = false := h6
        have v8 : Eng.upd e 4 8 = false := h8
        simp only [hei, h2, h3, h5, h6, h8, cond_true, cond_false]
        refine OL.callE (α := { z : ST // z.l.map Prod.fst = st1.l.map Prod.fst ++ lay kids[j] st1.l.length }) (fun z => .int .i64 ((z.1.l.length : Int) - 1)) (fun _ => True) (fun z => Cls (row s0.heap.size Ok qk j ck 3 1 (ints (roots (kids.take j) m0)) :: blk bx 28 [.int .i64 op, .int .i64 n, .slice y.b.1 binds.length y.b.2, .slice qk j ck, .slice y.a.1 alts.length y.a.2] :: blk bo 22 [.slice z.1.q z.1.l.length z.1.c] :: row s0.heap.size z.1.O z.1.q z.1.l.length z.1.c 28 5 (cat (exS s0).c z.1.l) :: pool (exS s0) s0.heap.size z.1.O2 z.1.l :: nothing :: H) (s0 :: S)) rfl rfl (by exact Args.au) (fun w2 hw2 => (ih kids[j] b' st1 (row s0.heap.size Ok qk j ck 3 1 (ints (roots (kids.take j) m0)) :: blk bx 28 [.int .i64 op, .int .i64 n, .slice y.b.1 binds.length y.b.2, .slice qk j ck, .slice y.a.1 alts.length y.a.2] :: nothing :: H) S w2 (by omega) hkid (by omega) (fun k hk => by have := hno k hk; exact NotOwned.au) (hw2.mv (A := [_, _]) (I := [_, _, _]) (H := nothing :: H))).mono (fun e w3 ⟨z, h1, h2, h3⟩ => ⟨⟨z, h2⟩, h1, trivial, h3.mv (A := [_, _, _]) (I := [_, _]) (H := nothing :: H)⟩)) ?_
        rintro ⟨st2, hst2⟩ -
        simp only
        apply OL.nil
        exact At.beside { x with st := st2, hst := hst2 } (by repeat (first | exact Sub.nil | apply Sub.cons rfl | refine Sub.cons_eq rfl (by simp only [v4, v2, v3, v5, v6, v8, cond_true, cond_false]) ?_)) (fun w' hw' => by first | exact hw' | (simp only [v4, v2, v3, v5, v6, v8, cond_true, cond_false]; exact hw'))
      · cases ho
        have h4 : e 4 = true := hd ⟨4, .data⟩ (by simp) rfl
        have v5 : Eng.upd e 5 5 = true := upd_eq
        have v4 : Eng.upd e 5 4 = true := upd_mono h4
        simp only [hei, h4, cond_true, cond_false]
        apply OL.buildSlice; rfl; rfl; rfl; exact Elems.au; rfl; rfl; (intro bk hbk; simp only [AllLe, and_true] at hbk)
        apply OL.nil
        exact At.beside { x with b1 := bk, hb1 := hbk } (by repeat (first | exact Sub.nil | apply Sub.cons rfl | refine Sub.cons_eq rfl (by simp only [v5, v4, cond_true, cond_false]) ?_)) (fun w' hw' => by simp only [v5, v4, cond_true, cond_false]; exact Cls.fill (p := 5) (H := _ :: _ :: _ :: _ :: _ :: _ :: H) (.s (.s (.s (.s (.s .z))))) hw')
      · cases ho
        have h1 : e 1 = true := hd ⟨1, .data⟩ (by simp) rfl
        have h5 : e 5 = true := hd ⟨5, .data⟩ (by simp) rfl
        have h4 : e 4 = true := hd ⟨4, .chain⟩ (by simp) rfl
        have h8 : e 8 = false := hcl.not (i := 6) (j := 8) rfl hei (by kernel_rfl)
        have v6 : Eng.upd e 6 6 = true := upd_eq
        have v1 : Eng.upd e 6 1 = true := upd_mono h1
        have v5 : Eng.upd e 6 5 = true := upd_mono h5
        have v4 : Eng.upd e 6 4 = true := upd_mono h4
        have v8 : Eng.upd e 6 8 = false := h8
        simp only [hei, h1, h5, h4, h8, cond_true, cond_false]
        apply OL.append
        rfl
        rfl
        rfl
        rfl
        exact Hole.au
        (repeat (first | exact List.Mem.head _ | apply List.Mem.tail))
        (repeat (first | apply Take.zero | apply Take.succ))
        rfl
        rfl
        exact ⟨s0, .head _, Nat.le_refl _⟩
        omega
        intro O1 g1 cap1
        apply OL.nil
        exact At.beside { x with g1 := g1, c1 := cap1, O1 := O1 } (by repeat (first | exact Sub.nil | apply Sub.cons rfl | refine Sub.cons_eq rfl (by simp only [v6, v1, v5, v4, v8, cond_true, cond_false]) ?_)) (fun w' hw' => by first | exact hw' | (simp only [v6, v1, v5, v4, v8, cond_true, cond_false]; exact hw'))
      · cases ho
        have v7 : Eng.upd e 7 7 = true := upd_eq
        simp only [hei, cond_true, cond_false]
        apply ofa; rfl; rfl; rfl
        apply OL.nil
        exact At.beside x (by repeat (first | exact Sub.nil | apply Sub.cons rfl | refine Sub.cons_eq rfl (by simp only [v7, cond_true, cond_false]) ?_)) (fun w' hw' => by first | exact hw' | (simp only [v7, cond_true, cond_false]; exact hw'))
      · cases ho
        have h6 : e 6 = true := hd ⟨6, .data⟩ (by simp) rfl
        have h7 : e 7 = true := hd ⟨7, .data⟩ (by simp) rfl
        have v8 : Eng.upd e 8 8 = true := upd_eq
        have v6 : Eng.upd e 8 6 = true := upd_mono h6
        have v7 : Eng.upd e 8 7 = true := upd_mono h7
        simp only [hei, h6, h7, cond_true, cond_false]
        apply OL.storeB; rfl; rfl; exact CellsL.one rfl; rfl; rfl; rfl; exact Swap.au; exact Put.au
        apply OL.nil
        exact At.beside x (by repeat (first | exact Sub.nil | apply Sub.cons rfl | refine Sub.cons_eq rfl (by simp only [v8, v6, v7, cond_true, cond_false]) ?_)) (fun w' hw' => by first | exact hw' | (simp only [v8, v6, v7, cond_true, cond_false]; exact hw'))
    · intro x e hall
      have hx1 := x.hb1
      have hst := x.hst
      have hxl : x.st.l.length = st1.l.length + tsz kids[j] := by
        have := congrArg List.length hst
        rw [List.length_map, List.length_append, List.length_map, lay_len] at this
        exact this
      simp only [hall 0 (by decide), hall 1 (by decide), hall 2 (by decide), hall 3 (by decide), hall 4 (by decide), hall 5 (by decide), hall 6 (by decide), hall 7 (by decide), hall 8 (by decide), cond_true, cond_false]
      have hsn : ints (roots (kids.take j) m0) ++ [.int .i64 ((x.st.l.length : Int) - 1)] = ints (roots (kids.take (j + 1)) m0) := by
        rw [roots_take hki, ints_append, hxl, hl1]
        rfl
      rw [hsn]
      with_reducible apply At.in_normal
      with_reducible apply At.next
      apply W.reg
      apply obn; rfl; rfl; rfl; apply Bin.add_in; omega
      apply omv; rfl; rfl
      apply OL.nil
      refine At.again (j + 1, x.st, ⟨x.O1, some ⟨x.g1, 0, none⟩, x.c1⟩) ⟨by simp only; omega, ?_⟩ (by simp only; omega) (by exact Sub.au) (fun w' hw' => (hw'.mv (A := [_, _, _, _, _]) (I := [_])).thin (.blk hx1 Thin.same))
      simp only
      rw [lays_take hki, ← List.append_assoc, ← hst1, hst, hl1]
  · obtain rfl : j = kids.length := by omega
    rw [List.take_length] at hst1 hl1 ⊢
    refine W.xt ?_
    with_reducible apply At.next
    apply W.seq
    refine W.regany (X := XI (s0 :: S) st1 leaf) (fun x e => [(38, true, bif e 7 then .pointer (some ⟨bo, 0, none⟩) else x.old 38), (37, true, bif e 6 then .slice (some ⟨x.g1, 0, none⟩) (st1.l.length + 1) x.c1 else x.old 37), (36, true, bif e 5 then .slice (some ⟨x.b1, 0, none⟩) 1 1 else x.old 36), (35, true, bif e 4 then .agg [.int .i64 op, .int .i64 n, .slice y.b.1 binds.length y.b.2, .slice qk kids.length ck, .slice y.a.1 alts.length y.a.2].toArray else x.old 35), (34, true, bif e 3 then .slice st1.q st1.l.length st1.c else x.old 34), (33, true, bif e 2 then .pointer (some ⟨bo, 0, none⟩) else x.old 33), (32, true, bif e 1 then .pointer (some ⟨bo, 0, none⟩) else x.old 32), (31, true, bif e 0 then .pointer (some ⟨bo, 0, none⟩) else x.old 31), (1, true, .pointer (some ⟨bo, 0, none⟩)), (5, true, .pointer (some ⟨bx, 0, none⟩))])
      (fun x e => (row s0.heap.size Ok qk kids.length ck 3 1 (ints (roots kids m0))) :: (blk bx 28 [.int .i64 op, .int .i64 n, .slice y.b.1 binds.length y.b.2, .slice qk kids.length ck, .slice y.a.1 alts.length y.a.2]) :: (blk bo 22 [bif e 8 then .slice (some ⟨x.g1, 0, none⟩) (st1.l.length + 1) x.c1 else .slice st1.q st1.l.length st1.c]) :: (bif e 6 then row s0.heap.size x.O1 (some ⟨x.g1, 0, none⟩) (st1.l.length + 1) x.c1 28 5 (cat (exS s0).c st1.l ++ [.int .i64 op, .int .i64 n, .slice y.b.1 binds.length y.b.2, .slice qk kids.length ck, .slice y.a.1 alts.length y.a.2]) else row s0.heap.size st1.O st1.q st1.l.length st1.c 28 5 (cat (exS s0).c st1.l)) :: (pool (exS s0) s0.heap.size st1.O2 st1.l) :: (bif e 5 then blk x.b1 28 [.int .i64 op, .int .i64 n, .slice y.b.1 binds.length y.b.2, .slice qk kids.length ck, .slice y.a.1 alts.length y.a.2] else nothing) :: H)
      (fun old => ⟨st1.dummy (lay leaf st1.l.length), ST.dummy_map _ _, w.heap.size, AllLe.mk hc, 0, 0, fun _ => False, old⟩) (by kernel_rfl) (by kernel_rfl) (fun w hw => hw.drew) (fun old => by repeat (first | exact SubO.nil | apply SubO.cons rfl | refine SubO.old rfl ?_)) (fun old w' hw' => (hw'.nothing_cons).mv (A := [_]) (I := [_, _, _, _, _])) ?_ ?_
    · intro x e i o ho hei hd hcl
      have hi : i < 9 := (List.getElem?_eq_some_iff.1 ho).1
      obtain rfl | rfl | rfl | rfl | rfl | rfl | rfl | rfl | rfl : i = 0 ∨ i = 1 ∨ i = 2 ∨ i = 3 ∨ i = 4 ∨ i = 5 ∨ i = 6 ∨ i = 7 ∨ i = 8 := by omega
      · cases ho
        have v0 : Eng.upd e 0 0 = true := upd_eq
        simp only [hei, cond_true, cond_false]
        apply omv; rfl; rfl
        apply OL.nil
        exact At.beside x (by repeat (first | exact Sub.nil | apply Sub.cons rfl | refine Sub.cons_eq rfl (by simp only [v0, cond_true, cond_false]) ?_)) (fun w' hw' => by first | exact hw' | (simp only [v0, cond_true, cond_false]; exact hw'))
      · cases ho
        have v1 : Eng.upd e 1 1 = true := upd_eq
        simp only [hei, cond_true, cond_false]
        apply omv; rfl; rfl
        apply OL.nil
        exact At.beside x (by repeat (first | exact Sub.nil | apply Sub.cons rfl | refine Sub.cons_eq rfl (by simp only [v1, cond_true, cond_false]) ?_)) (fun w' hw' => by first | exact hw' | (simp only [v1, cond_true, cond_false]; exact hw'))
      · cases ho
        have h1 : e 1 = true := hd ⟨1, .data⟩ (by simp) rfl
        have v2 : Eng.upd e 2 2 = true := upd_eq
        have v1 : Eng.upd e 2 1 = true := upd_mono h1
        simp only [hei, h1, cond_true, cond_false]
        apply oop; rfl; apply Pev.nil_ptr; rfl; exact yes
        apply OL.nil
        exact At.beside x (by repeat (first | exact Sub.nil | apply Sub.cons rfl | refine Sub.cons_eq rfl (by simp only [v2, v1, cond_true, cond_false]) ?_)) (fun w' hw' => by first | exact hw' | (simp only [v2, v1, cond_true, cond_false]; exact hw'))
      · cases ho
        have h2 : e 2 = true := hd ⟨2, .data⟩ (by simp) rfl
        have h8 : e 8 = false := hcl.not (i := 3) (j := 8) rfl hei (by kernel_rfl)
        have v3 : Eng.upd e 3 3 = true := upd_eq
        have v2 : Eng.upd e 3 2 = true := upd_mono h2
        have v8 : Eng.upd e 3 8 = false := h8
        simp only [hei, h2, h8, cond_true, cond_false]
        apply old; rfl; rfl; exact .tail _ (.tail _ (.head _)); rfl; rfl
        apply OL.nil
        exact At.beside x (by repeat (first | exact Sub.nil | apply Sub.cons rfl | refine Sub.cons_eq rfl (by simp only [v3, v2, v8, cond_true, cond_false]) ?_)) (fun w' hw' => by first | exact hw' | (simp only [v3, v2, v8, cond_true, cond_false]; exact hw'))
      · cases ho
        have v4 : Eng.upd e 4 4 = true := upd_eq
        simp only [hei, cond_true, cond_false]
        apply oop; rfl; apply Pev.load_blkA; rfl; exact yes; exact .tail _ (.head _); rfl; exact Take.au
        apply OL.nil
        exact At.beside x (by repeat (first | exact Sub.nil | apply Sub.cons rfl | refine Sub.cons_eq rfl (by simp only [v4, cond_true, cond_false]) ?_)) (fun w' hw' => by first | exact hw' | (simp only [v4, cond_true, cond_false]; exact hw'))
      · cases ho
        have h4 : e 4 = true := hd ⟨4, .data⟩ (by simp) rfl
        have v5 : Eng.upd e 5 5 = true := upd_eq
        have v4 : Eng.upd e 5 4 = true := upd_mono h4
        simp only [hei, h4, cond_true, cond_false]
        apply OL.buildSlice; rfl; rfl; rfl; exact Elems.au; rfl; rfl; (intro bk hbk; simp only [AllLe, and_true] at hbk)
        apply OL.nil
        exact At.beside { x with b1 := bk, hb1 := hbk } (by repeat (first | exact Sub.nil | apply Sub.cons rfl | refine Sub.cons_eq rfl (by simp only [v5, v4, cond_true, cond_false]) ?_)) (fun w' hw' => by simp only [v5, v4, cond_true, cond_false]; exact Cls.fill (p := 5) (H := _ :: _ :: _ :: _ :: _ :: _ :: H) (.s (.s (.s (.s (.s .z))))) hw')
      · cases ho
        have h3 : e 3 = true := hd ⟨3, .data⟩ (by simp) rfl
        have h5 : e 5 = true := hd ⟨5, .data⟩ (by simp) rfl
        have h8 : e 8 = false := hcl.not (i := 6) (j := 8) rfl hei (by kernel_rfl)
        have v6 : Eng.upd e 6 6 = true := upd_eq
        have v3 : Eng.upd e 6 3 = true := upd_mono h3
        have v5 : Eng.upd e 6 5 = true := upd_mono h5
        have v8 : Eng.upd e 6 8 = false := h8
        simp only [hei, h3, h5, h8, cond_true, cond_false]
        apply OL.append
        rfl
        rfl
        rfl
        rfl
        exact Hole.au
        (repeat (first | exact List.Mem.head _ | apply List.Mem.tail))
        (repeat (first | apply Take.zero | apply Take.succ))
        rfl
        rfl
        exact ⟨s0, .head _, Nat.le_refl _⟩
        omega
        intro O1 g1 cap1
        apply OL.nil
        exact At.beside { x with g1 := g1, c1 := cap1, O1 := O1 } (by repeat (first | exact Sub.nil | apply Sub.cons rfl | refine Sub.cons_eq rfl (by simp only [v6, v3, v5, v8, cond_true, cond_false]) ?_)) (fun w' hw' => by first | exact hw' | (simp only [v6, v3, v5, v8, cond_true, cond_false]; exact hw'))
      · cases ho
        have h0 : e 0 = true := hd ⟨0, .data⟩ (by simp) rfl
        have v7 : Eng.upd e 7 7 = true := upd_eq
        have v0 : Eng.upd e 7 0 = true := upd_mono h0
        simp only [hei, h0, cond_true, cond_false]
        apply oop; rfl; apply Pev.nil_ptr; rfl; exact yes
        apply OL.nil
        exact At.beside x (by repeat (first | exact Sub.nil | apply Sub.cons rfl | refine Sub.cons_eq rfl (by simp only [v7, v0, cond_true, cond_false]) ?_)) (fun w' hw' => by first | exact hw' | (simp only [v7, v0, cond_true, cond_false]; exact hw'))
      · cases ho
        have h6 : e 6 = true := hd ⟨6, .data⟩ (by simp) rfl
        have h7 : e 7 = true := hd ⟨7, .data⟩ (by simp) rfl
        have v8 : Eng.upd e 8 8 = true := upd_eq
        have v6 : Eng.upd e 8 6 = true := upd_mono h6
        have v7 : Eng.upd e 8 7 = true := upd_mono h7
        simp only [hei, h6, h7, cond_true, cond_false]
        apply OL.storeB; rfl; rfl; exact CellsL.one rfl; rfl; rfl; rfl; exact Swap.au; exact Put.au
        apply OL.nil
        exact At.beside x (by repeat (first | exact Sub.nil | apply Sub.cons rfl | refine Sub.cons_eq rfl (by simp only [v8, v6, v7, cond_true, cond_false]) ?_)) (fun w' hw' => by first | exact hw' | (simp only [v8, v6, v7, cond_true, cond_false]; exact hw'))
    · intro x e hall
      have hx1 := x.hb1
      simp only [hall 0 (by decide), hall 1 (by decide), hall 2 (by decide), hall 3 (by decide), hall 4 (by decide), hall 5 (by decide), hall 6 (by decide), hall 7 (by decide), hall 8 (by decide), cond_true, cond_false]
      with_reducible apply At.next
      apply W.sr
      apply omv; rfl; rfl
      apply oop; rfl; apply Pev.nil_ptr; rfl; exact yes
      apply old; rfl; rfl; exact .tail _ (.tail _ (.head _)); rfl; rfl
      apply oop; rfl; apply Pev.len_slice; rfl; exact yes; rfl
      apply obn; rfl; rfl; rfl; apply Bin.sub_in; omega
      apply oas; rfl; rfl
      apply OL.nx
      apply W.ret
      ((with_reducible apply At.fin1); rfl; rfl; intro w' hw')
      have hrow := hw'.item (i := row s0.heap.size Ok qk kids.length ck 3 1 (ints (roots kids m0))) (by exact mau)
      have hcap := row_cap hrow
      have h1 := (hw'.thin (.keep (.blk hbx (.keep (.keep (.keep (.blk hx1 Thin.same))))))).mv (A := [_, _, _]) (I := [_])
      have h2 := (h1.flip).pool_take (x := ⟨op, n, binds, roots kids m0, alts⟩) (y := ⟨y.b, (qk, ck), y.a⟩) (fun k hk => hk.1) ⟨by rw [roots_len]; exact ⟨hN.op, hN.n, hN.bl, hN.al, hN.kl, hN.bc, hN.ac, hN.b, hN.a⟩, by rw [roots_len]; exact hcap, fun hl => by
        obtain ⟨a, e1, e2, e3⟩ := row_at hrow (by rw [ints_length]; exact hl)
        exact ⟨a, e1, ⟨e2.1, .inr e2⟩, e3⟩⟩
      have h3 := h2.mv (A := [_]) (I := [_, _])
      refine ⟨⟨st1.l ++ [(⟨op, n, binds, roots kids m0, alts⟩, ⟨y.b, (qk, ck), y.a⟩)], x.O1, fun k => st1.O2 k ∨ (s0.heap.size ≤ k ∧ Ok k), some ⟨x.g1, 0, none⟩, x.c1⟩, ?_, ?_, ?_⟩
      · simp only [List.length_append, List.length_singleton]
      · rw [List.map_append, hst1, lay, List.append_assoc, ← hm0]
        rfl
      · simp only [List.length_append, List.length_singleton]
        rw [show cat (exS s0).c (st1.l ++ [((⟨op, n, binds, roots kids m0, alts⟩ : Ex), (⟨y.b, (qk, ck), y.a⟩ : ExY))]) = cat (exS s0).c st1.l ++ [.int .i64 op, .int .i64 n, .slice y.b.1 binds.length y.b.2, .slice qk kids.length ck, .slice y.a.1 alts.length y.a.2] by rw [cat_append, cat_one]; simp only [exS, Rel.c, exC, roots_len]]
        exact h3
theorem List_calls (t : Tr) (b : Nat) (w : World) (ht : NodO w t b) (hlen : tsz t ≤ 100000) :
    Calls Tryd.prog 15 [.pointer (some ⟨b, 0, none⟩)].toArray w fun e w' => ∃ (q : Option Addr) (c : Nat) (l : List (Ex × ExY)), e = .returned (.slice q l.length c) ∧ Ext w w' ∧ l.map Prod.fst = lay t 0 ∧ l.length ≤ c ∧ Arr exR w' (low w') l q := by
  refine enter Tryd.func15 rfl Tryd.ntmps15 rfl (Cls.start w) ?_
  (simp only [argEnv, Nat.zero_add, Nat.reduceAdd])
  apply W.sr
  apply oas; rfl; rfl
  apply OL.nsr
  apply OL.alloc; rfl; rfl; exact CellsL.one rfl; (intro bk hbk; simp only [AllLe, and_true] at hbk)
  apply OL.nsr
  apply omv; rfl; rfl
  revert bk
  intro bo hbo
  have hbo0 : w.heap.size ≤ bo := hbo
  refine OL.callE (α := ST) (fun z => .int .i64 ((z.l.length : Int) - 1)) (fun z => z.l.map Prod.fst = lay t 0) (fun z => Cls (blk bo 22 [.slice z.q z.l.length z.c] :: row w.heap.size z.O z.q z.l.length z.c 28 5 (cat (exS w).c z.l) :: pool (exS w) w.heap.size z.O2 z.l :: []) [w]) rfl rfl (by exact Args.au) (fun w2 hw2 => ?_) ?_
  · have h1 := (((hw2.row_nil w.heap.size 28 5).pool_nil (exS w) w.heap.size)).perm (List.reverse_perm _).symm
    refine (into_calls w bo hbo0 (tsz t) t b ⟨[], fun _ => False, fun _ => False, none, 0⟩ [] [] w2 (Nat.le_refl _) ht (by simpa using hlen) (fun k hk => NotOwned.nil) h1).mono fun e w3 ⟨z, h2, h3, h4⟩ => ⟨z, h2, by simpa using h3, h4⟩
  intro z hz
  apply OL.nsr
  apply old; rfl; rfl; exact .head _; rfl; rfl
  apply oas; rfl; rfl
  apply OL.nx
  apply W.ret
  ((with_reducible apply At.fin1); rfl; rfl; intro w' hw')
  have hsz := (hw'.kp w (.head _)).size
  have hk := hw'.same (.head _) (fun k hk => by exact NotOwned.au)
  have harr : Arr (exS w) w' (low w') z.l z.q := hw'.arr (B := w.heap.size) (O1 := z.O) (O2 := z.O2) (m := z.l.length) (cap := z.c) (e := 28) (by exact mau) (by exact mau)
  refine ⟨z.q, z.c, z.l, rfl, by (exact hw'.fr), hz, row_cap (hw'.item (i := row w.heap.size z.O z.q z.l.length z.c 28 5 (cat (exS w).c z.l)) (by exact mau)), harr.at_, fun p hp => (harr.el p hp).ok hsz hk⟩
end Go.Proofs.YtlboppiogeaicaaDoor.co
