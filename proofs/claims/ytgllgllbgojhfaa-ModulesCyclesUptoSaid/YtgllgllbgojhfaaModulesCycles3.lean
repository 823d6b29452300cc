/- Texts of the proof of ModulesCycles, part 3: rules of a calculus for walking, plain laws, and walks of the functions that the law reaches. No condition. -/
import Derived.Test.YtgllgllbgojhfaaRows
import Derived.Test.YtgllgllbgojhfaaModulesCycles2
set_option linter.unusedVariables false
set_option linter.unusedSimpArgs false
set_option linter.unusedSectionVars false
/- The walks of slices.Clone and of walk. Conditions: none. -/
namespace Go.Proofs.Ytgllgllbgojhfaa.mo
open Go.RowKit Go.Eng Go.Mo Go.Mc
set_option maxRecDepth 100000
theorem SClone_calls (q : Option Addr) (cap : Nat) (l : List ByteArray) (w : World) (h0 : 0 < l.length) (hlen : l.length ≤ 100) (h : SlAt w w.heap.size q (strs l)) :
    Calls Try.prog 41 #[.slice q l.length cap] w fun e w' => ∃ O q' cap', e = .returned (.slice q' l.length cap') ∧ Cls [row w.heap.size O q' l.length cap' 9 1 (strs l)] [w] w' := by
  obtain ⟨a, rfl, hab, hca⟩ := h (by rw [strs_len]; exact h0)
  refine enter Try.func41 rfl Try.ntmps41 rfl (Cls.start w) ?_
  (simp only [argEnv, Nat.zero_add, Nat.reduceAdd])
  apply W.sr
  apply oas; rfl; rfl
  apply OL.nx
  apply W.seq
  apply W.sr
  apply omv; rfl; rfl
  apply obn; rfl; rfl; rfl; apply Bin.slice_nil; rfl
  apply OL.nx
  refine W.cond rfl (fun hb => by simp at hb) (fun _ => ?_)
  apply W.sk
  apply W.sr
  apply OL.buildSlice; rfl; rfl; rfl; exact Elems.au; rfl; rfl; (intro bk hbk; simp only [AllLe, and_true] at hbk)
  apply omv; rfl; rfl
  refine OL.cls (fun w' hw' => hw'.blk_row (base := w.heap.size) (m := 0) (sz := 1) (by omega) rfl (by decide)) ?_
  (apply OL.appendK (news := strs l)); rfl; rfl; rfl; rfl; (exact Hole.au); (exact fun w2 hw2 => SlAt.keep (q := some a) (fun _ => ⟨a, rfl, hab, hca⟩) (hw2.below (s := w) (by exact mau) (Nat.le_refl _) (fun k hk => by exact NotOwned.au)) (hw2.kp w (by exact mau)).size); (rw [strs_len, Nat.mul_one]); (exact strs_oneL _); (exact ⟨w, .head _, Nat.le_refl _⟩); (omega); (intro O1 q1 c1)
  simp only [Nat.zero_add, List.nil_append]
  apply oas; rfl; rfl
  apply OL.nx
  apply W.ret
  ((with_reducible apply At.fin1); rfl; rfl; intro w' hw')
  exact ⟨O1, q1, c1, rfl, hw'⟩
theorem rows_ext {w w' : World} {q : Option Addr} {ll : List (List ByteArray)} (h : StrRows w w.heap.size q ll) (hx : Ext w w') : StrRows w' w'.heap.size q ll :=
  h.keep (fun p hp => World.cell?_of_block (hx.block _ hp id)) hx.size
/-- what walk has found -/
def okR (w : World) (q : Option Addr) (r : Option (List ByteArray)) : Prop := match r with
  | none => q = none
  | some c => (∃ a, q = some a) ∧ SlAt w w.heap.size q (strs c)
def lenR (r : Option (List ByteArray)) : Nat := (r.getD []).length
theorem okR.at {w w' : World} {q : Option Addr} {H : List Eng.Item} {S : List World} : ∀ {r : Option (List ByteArray)}, okR w q r → Cls H S w' → w ∈ S → (∀ k, k < w.heap.size → NotOwned H k) → okR w' q r
  | none, h, _, _, _ => h
  | some c, h, hw, hs, hno => ⟨h.1, h.2.keep (hw.below hs (Nat.le_refl _) hno) (hw.kp w hs).size⟩
theorem okR.ext {w w' : World} {q : Option Addr} : ∀ {r : Option (List ByteArray)}, okR w q r → Ext w w' → okR w' q r
  | none, h, _ => h
  | some c, h, hx => ⟨h.1, h.2.ext hx (Nat.le_refl _)⟩
theorem walk_calls (q q' : Option Addr) (cap cap' : Nat) (l : List ByteArray) (ll : List (List ByteArray)) (s0 : World) (hc : chk l ll = 0) (hsm : ∀ m ∈ ll, m.length ≤ 1048576) (hcap : l.length ≤ cap) (h : SlAt s0 s0.heap.size q (strs l)) (h' : StrRows s0 s0.heap.size q' ll) (size : Nat) (hsz : size ≤ 16) :
    ∀ (f : Nat) (hd : ByteArray) (t : List ByteArray) (qw : Option Addr) (cw : Nat) (w : World), Mc.Way l (impS l ll) ltS hd t → f + (t.length + 1) = size → Ext s0 w → SlAt w w.heap.size qw (strs (hd :: t)) →
    Calls Try.prog 23 #[.slice q l.length cap, .slice q' ll.length cap', .slice qw (hd :: t).length cw, .int .i64 (size : Int)] w fun e w' => ∃ qr cr, e = .returned (.slice qr (lenR (walkS ltS (fun s => srtS (impS l ll s)) (reachP l ll) size f (hd :: t))) cr) ∧ Ext w w' ∧ okR w' qr (walkS ltS (fun s => srtS (impS l ll s)) (reachP l ll) size f (hd :: t)) := by
  obtain ⟨hl16, hll⟩ := chk_len hc
  intro f
  induction f using Nat.strongRecOn with
  | ind f ih =>
  intro hd t qw cw w hway hfs hx hw
  have h := h.ext hx (Nat.le_refl _)
  have h' := rows_ext h' hx
  obtain ⟨wy, hwy⟩ : ∃ wy, hd :: t = wy := ⟨_, rfl⟩
  have hwl : wy.length = t.length + 1 := by rw [← hwy]; rfl
  have hlast : wy[wy.length - 1]? = some (lastOf hd t) := by
    obtain ⟨w1, e1⟩ := lastOf_eq hd t
    have e2 : wy = w1 ++ [lastOf hd t] := hwy.symm.trans e1
    rw [e2, List.length_append, List.length_singleton, Nat.add_sub_cancel, List.getElem?_append_right (Nat.le_refl _), Nat.sub_self]
    rfl
  have hfst : wy[0]? = some hd := by rw [← hwy]; rfl
  have hll2 : lastOf hd t ∈ l := hway.inn _ (by unfold lastOf; exact List.getLast_mem _)
  obtain ⟨hx1, hx2⟩ := ix_of hll2
  obtain ⟨hr1, hr2⟩ := imp_row hll hll2
  obtain ⟨a, q2, cap2, hqa, hab, hcell, hmcap, hmlen, hmst⟩ := h'.get _ _ hr2
  subst hqa
  have him : (impS l ll (lastOf hd t)).length ≤ 1048576 := hsm _ (List.mem_of_getElem? hr2)
  rw [hwy] at hw
  obtain ⟨aw, rfl, hawb, hcw⟩ := hw (by rw [strs_len]; omega)
  have hcl : w.cell? (aw.add (((wy.length : Int) - 1).toNat * 1)) = some (.string (lastOf hd t)) := by
    rw [show ((wy.length : Int) - 1).toNat * 1 = wy.length - 1 by omega]
    exact hcw _ _ (by simp [strs, hlast])
  have hc0 : w.cell? (aw.add (0 * 1)) = some (.string hd) := hcw _ _ (by simp [strs, hfst])
  have hsx := hx.size
  refine enter Try.func23 rfl Try.ntmps23 rfl (Cls.start w) ?_
  rw [hwy]
  (simp only [argEnv, Nat.zero_add, Nat.reduceAdd])
  have hwr : IntKind.i64.wrap ((wy.length : Int) - 1) = ((wy.length - 1 : Nat) : Int) := by
    rw [IntKind.wrap_i64]
    omega
  apply W.sr
  apply oas; rfl; rfl
  apply OL.nsr
  apply omv; rfl; rfl
  apply omv; rfl; rfl
  apply omv; rfl; rfl
  apply omv; rfl; rfl
  apply oop; rfl; apply Pev.len_slice; rfl; exact yes; rfl
  apply obn; rfl; rfl; rfl; apply Bin.sub_in; omega
  apply oop; rfl; apply Pev.idxI; rfl; exact yes; rfl; exact yes; rfl; intro hcond; omega
  apply oop; rfl; apply Pev.load_kept; rfl; exact yes; exact .head _; rfl; intro hcond; assumption; intro hcond; (rw [add_block]; assumption); intro hcond; exact NotOwned.au
  (((first | (with_reducible apply OL.op) | (with_reducible apply QL.op)); (exact Guard.au); rfl; rfl); (exact Pev.call (v := .int .i64 (ix l (lastOf hd t) : Int)) rfl (by exact Args.au) (fun _ w2 hw2 => (Index_calls q cap l (lastOf hd t) w2 (by omega) (h.keep (hw2.below (s := w) (by exact mau) (Nat.le_refl _) (fun k hk => by exact NotOwned.au)) (hw2.kp w (by exact mau)).size)).mono (fun e w3 h => ⟨by rw [h.1, hx1], hw2.ext h.2⟩))))
  apply oop; rfl; apply Pev.idx; rfl; exact yes; rfl; exact yes; rfl; rfl; intro hcond; omega
  apply oop; rfl; apply Pev.load_kept; rfl; exact yes; exact .head _; rfl; intro hcond; assumption; intro hcond; (rw [add_block]; assumption); intro hcond; exact NotOwned.au
  refine OL.callE (α := Nat × World) (fun z => .func (.func 39) #[] #[.pointer (some ⟨z.1, 0, none⟩)]) (fun z => z.1 < z.2.heap.size ∧ z.2.cell? ⟨z.1, 0, none⟩ = some (.slice q2 (impS l ll (lastOf hd t)).length cap2)) (fun z => Cls [] [z.2, w]) rfl rfl (by exact Args.au) (fun w2 hw2 => (Values_calls q2 cap2 _ w2).mono (fun e w3 ⟨b, h1, h2, h3, h4⟩ => ⟨(b, w3), h1, ⟨h3, h4⟩, (hw2.ext h2).note⟩)) ?_
  rintro ⟨b, z1⟩ ⟨hb1, hb2⟩
  simp only at hb1 hb2 ⊢
  obtain ⟨nx, hnx⟩ : ∃ nx, srtS (impS l ll (lastOf hd t)) = nx := ⟨_, rfl⟩
  have hnl : nx.length = (impS l ll (lastOf hd t)).length := by rw [← hnx, srtS_len]
  skip
  refine OL.callE (α := (Option Addr × Nat) × World) (fun z => .slice z.1.1 nx.length z.1.2) (fun z => SlAt z.2 z.2.heap.size z.1.1 (strs nx) ∧ w.heap.size ≤ z.2.heap.size) (fun z => Cls [] [z.2, w]) rfl rfl (by exact Args.au) (fun w2 hw2 => ?_) ?_
  · obtain ⟨g1, g2⟩ := val_at hb1 hb2 hw2 (by exact mau) (fun k hk => by exact NotOwned.au)
    refine (Sorted_calls b q2 cap2 _ w2 g1 g2 (by omega) (hmst.keep (hw2.below (s := w) (by exact mau) (Nat.le_refl _) (fun k hk => by exact NotOwned.au)) (hw2.kp w (by exact mau)).size)).mono ?_
    rintro e w3 ⟨q3, cap3, h1, h2, h3⟩
    rw [hnx] at h3
    rw [← hnl] at h1
    exact ⟨((q3, cap3), w3), h1, ⟨h3, Nat.le_trans (hw2.kp w (by exact mau)).size h2.size⟩, ((hw2.forget (by simp)).ext h2).note⟩
  rintro ⟨⟨qn, cn⟩, z2⟩ ⟨hn, hzw⟩
  simp only at hn hzw ⊢
  apply oas; rfl; rfl
  apply OL.nx
  apply W.seq
  apply W.sr
  apply omv; rfl; rfl
  apply oop; rfl; apply Pev.len_slice; rfl; exact yes; rfl
  apply omv; rfl; rfl
  apply obn; rfl; rfl; rfl; apply Bin.eql
  apply OL.nx
  (refine W.cnd (fun hlen => ?_) (fun hlen => ?_)) <;> (try (exfalso; first | omega | exact hlen trivial | contradiction))
  · obtain rfl : f = 0 := by omega
    have hkeep : ∀ {H : List Eng.Item} {S : List World} {w2 : World}, Cls H S w2 → z2 ∈ S → (∀ k, k < z2.heap.size → NotOwned H k) → SlAt w2 w2.heap.size qn (strs nx) := fun hw2 hm hno => hn.keep (hw2.below hm (Nat.le_refl _) hno) (hw2.kp z2 hm).size
    apply W.seq
    apply W.sr
    apply omv; rfl; rfl
    apply omv; rfl; rfl
    apply oop; rfl; apply Pev.idx; rfl; exact yes; rfl; exact yes; rfl; rfl; intro hcond; (simp only [Bool.and_eq_true, Bool.or_eq_true, Bool.not_eq_true', decide_eq_true_eq, decide_eq_false_iff_not] at *; omega)
    apply oop; rfl; apply Pev.load_kept; rfl; exact yes; exact .tail _ (.head _); rfl; intro hcond; assumption; intro hcond; assumption; intro hcond; exact NotOwned.au
    (((first | (with_reducible apply OL.op) | (with_reducible apply QL.op)); (exact Guard.au); rfl; rfl); (exact Pev.call (v := .bool (hasB nx hd)) rfl (by exact Args.au) (fun _ w2 hw2 => (Contains_calls qn cn nx hd w2 (by omega) (hkeep hw2 (by exact mau) (fun k hk => by exact NotOwned.au))).mono (fun e w3 h => ⟨h.1, hw2.ext h.2⟩))))
    apply OL.nx
    (refine W.cnd (fun hin => ?_) (fun hin => ?_)) <;> (try (exfalso; first | omega | exact hin trivial | contradiction))
    · have hin : hd ∈ nx := hasB_iff.1 (by simpa using hin)
      subst hwy
      rw [walkS_yes (by rw [hnx]; exact hin)]
      apply W.sr
      apply omv; rfl; rfl
      apply oas; rfl; rfl
      apply OL.nx
      refine W.rt ?_
      ((with_reducible apply At.fin1); rfl; rfl; intro w' hw')
      exact ⟨_, cw, rfl, by (exact hw'.fr), ⟨_, rfl⟩, SlAt.keep (q := some aw) (fun _ => ⟨aw, rfl, hawb, hcw⟩) (hw'.below (s := w) (by exact mau) (Nat.le_refl _) (fun k hk => by exact NotOwned.au)) (hw'.kp w (by exact mau)).size⟩
    · have hin : ¬ hd ∈ nx := fun h => by
        have := hasB_iff.2 h
        simp [this] at hin
      subst hwy
      rw [walkS_no (by rw [hnx]; exact hin)]
      apply W.sk
      apply W.sr
      apply oas; rfl; rfl
      apply OL.nx
      refine W.rt ?_
      ((with_reducible apply At.fin1); rfl; rfl; intro w' hw')
      exact ⟨_, 0, rfl, by (exact hw'.fr), rfl⟩
  · obtain ⟨f', rfl⟩ : ∃ f', f = f' + 1 := ⟨f - 1, by omega⟩
    have hsn : (size : Int) - (wy.length : Int) + 1 = ((f' + 2 : Nat) : Int) := by omega
    apply W.sk
    apply W.seq
    apply W.seq
    apply W.regd0; decide +kernel; kernel_rfl; decide +kernel; exact fun w hw => hw.drew
    apply qmv; rfl; rfl
    apply qmv; rfl; rfl
    apply qmv; rfl; rfl
    apply qmv; rfl; rfl
    apply qop; rfl; apply Pev.len_slice; rfl; exact yes; rfl
    apply qbn; rfl; rfl; rfl; apply Bin.sub_in; omega
    apply qop; rfl; apply Pev.idxI; rfl; exact yes; rfl; exact yes; rfl; intro hcond; omega
    apply qop; rfl; apply Pev.load_kept; rfl; exact yes; exact .tail _ (.head _); rfl; intro hcond; assumption; intro hcond; (rw [add_block]; assumption); intro hcond; exact NotOwned.au
    apply qmv; rfl; rfl
    apply qop; rfl; apply Pev.idx; rfl; exact yes; rfl; exact yes; rfl; rfl; intro hcond; (simp only [Bool.and_eq_true, Bool.or_eq_true, Bool.not_eq_true', decide_eq_true_eq, decide_eq_false_iff_not] at *; omega)
    apply qop; rfl; apply Pev.load_kept; rfl; exact yes; exact .tail _ (.head _); rfl; intro hcond; assumption; intro hcond; assumption; intro hcond; exact NotOwned.au
    apply qmv; rfl; rfl
    apply qmv; rfl; rfl
    apply qop; rfl; apply Pev.len_slice; rfl; exact yes; rfl
    apply qbn; rfl; rfl; rfl; apply Bin.sub_in; omega
    apply qbn; rfl; rfl; rfl; apply Bin.add_in; omega
    (((first | (with_reducible apply OL.op) | (with_reducible apply QL.op)); (exact Guard.au); rfl; rfl); (refine Pev.call (v := .bool (reachP l ll (lastOf hd t) hd (f' + 2))) rfl (by exact Args.au) (fun _ w2 hw2 => ?_)))
    · have hkw := hw2.below (s := w) (by exact mau) (Nat.le_refl _) (fun k hk => by exact NotOwned.au)
      have hkz := (hw2.kp w (by exact mau)).size
      have := reaches_calls q (some a) cap cap' l ll (lastOf hd t) hd (f' + 2) w2 hc hsm hll2 (by omega) hcap (h.keep hkw hkz) (h'.keep hkw hkz)
      rw [← hsn] at this
      exact this.mono (fun e w3 h => ⟨h.1, hw2.ext h.2⟩)
    apply qop; rfl; apply Pev.not; rfl; exact yes
    apply QL.nil
    with_reducible apply At.next
    (refine W.cnd (fun hre => ?_) (fun hre => ?_)) <;> (try (exfalso; first | omega | exact hre trivial | contradiction))
    · have hre : reachP l ll (lastOf hd t) hd (f' + 2) = false := by simpa using hre
      rw [← hwy, walkS_cut hre]
      apply W.sr
      apply oas; rfl; rfl
      apply OL.nx
      refine W.rt ?_
      ((with_reducible apply At.fin1); rfl; rfl; intro w' hw')
      exact ⟨_, 0, rfl, by (exact hw'.fr), rfl⟩
    have hre : reachP l ll (lastOf hd t) hd (f' + 2) = true := by simpa using hre
    have hgo : walkS ltS (fun s => srtS (impS l ll s)) (reachP l ll) size (f' + 1) wy = nx.findSome? (stepW ltS (fun s => srtS (impS l ll s)) (reachP l ll) size f' hd t) := by
      rw [← hwy, walkS_go hre, hnx]
    rw [hgo]
    clear hgo
    apply W.sk
    apply W.seq
    apply W.sr
    apply omv; rfl; rfl
    apply oop; rfl; apply Pev.len_slice; rfl; exact yes; rfl
    apply omv; rfl; rfl
    apply OL.nx
    apply W.block
    refine W.loop (G := Nat) (fun i => i ≤ nx.length ∧ (nx.take i).findSome? (stepW ltS (fun s => srtS (impS l ll s)) (reachP l ll) size f' hd t) = none) (fun i => nx.length - i)
      (fun i => [(56, true, .int .i64 (i : Int)), (55, true, .int .i64 (nx.length : Int)), (54, true, .slice qn nx.length cn), (0, true, .slice q l.length cap), (1, true, .slice (some a) ll.length cap'), (2, true, .slice (some aw) wy.length cw), (3, true, .int .i64 (size : Int))])
      (fun i => Cls [] [z2, w]) 0 ⟨Nat.zero_le _, rfl⟩ (by exact Sub.au) (fun w' hw' => hw') ?_
    rintro i ⟨hi, hnone⟩
    apply W.sr
    apply obn; rfl; rfl; rfl; apply Bin.lss
    apply OL.nx
    apply W.seq
    (refine W.cnd (fun hil => ?_) (fun hil => ?_)) <;> (try (exfalso; first | omega | exact hil trivial | contradiction))
    · obtain ⟨an, m, rfl, hanb, hm, hcm⟩ := str_at hn (show i < nx.length by omega)
      have hwk : ∀ {H : List Eng.Item} {S : List World} {w2 : World}, Cls H S w2 → w ∈ S → (∀ k, k < w.heap.size → NotOwned H k) → SlAt w2 w2.heap.size (some aw) (strs wy) := fun hw2 hm hno => SlAt.keep (q := some aw) (fun _ => ⟨aw, rfl, hawb, hcw⟩) (hw2.below hm (Nat.le_refl _) hno) (hw2.kp w hm).size
      apply W.sk
      apply W.sb
      apply W.sr
      apply oop; rfl; apply Pev.idx; rfl; exact yes; rfl; exact yes; rfl; rfl; intro hcond; omega
      apply oop; rfl; apply Pev.load_kept; rfl; exact yes; exact .head _; rfl; intro hcond; assumption; intro hcond; (rw [add_block]; assumption); intro hcond; exact NotOwned.au
      apply oas; rfl; rfl
      apply OL.nx
      apply W.seq
      apply W.sr
      apply omv; rfl; rfl
      apply omv; rfl; rfl
      apply oop; rfl; apply Pev.idx; rfl; exact yes; rfl; exact yes; rfl; rfl; intro hcond; (simp only [Bool.and_eq_true, Bool.or_eq_true, Bool.not_eq_true', decide_eq_true_eq, decide_eq_false_iff_not] at *; omega)
      apply oop; rfl; apply Pev.load_kept; rfl; exact yes; exact .tail _ (.head _); rfl; intro hcond; assumption; intro hcond; assumption; intro hcond; exact NotOwned.au
      (((first | (with_reducible apply OL.op) | (with_reducible apply QL.op)); (exact Guard.au); rfl; rfl); (refine Pev.bin (r := .bool (!decide (ltS hd m))) rfl (by (first | exact fun _ => rfl | exact fun h => h | (intro h; simp_all; done))) rfl (by (first | exact fun _ => rfl | exact fun h => h | (intro h; simp_all; done))) (fun _ => leqS)))
      apply omv; rfl; rfl
      apply ono; rfl; rfl; rfl; apply Pev.move; rfl; exact yes
      apply ono; rfl; rfl; rfl; apply Pev.move; rfl; exact yes
      (((first | (with_reducible apply OL.op) | (with_reducible apply QL.op)); (exact Guard.au); rfl; rfl); (exact Pev.call (v := .bool (hasB wy m)) rfl (by exact Args.au) (fun _ w2 hw2 => (Contains_calls (some aw) cw wy m w2 (by omega) (hwk hw2 (by exact mau) (fun k hk => by exact NotOwned.au))).mono (fun e w3 h => ⟨h.1, hw2.ext h.2⟩))))
      apply oop; rfl; apply Pev.pick_or; rfl; exact yes; rfl; exact fun h => h
      apply OL.nx
      have hone : ∀ r, stepW ltS (fun s => srtS (impS l ll s)) (reachP l ll) size f' hd t m = r → (nx.take (i + 1)).findSome? (stepW ltS (fun s => srtS (impS l ll s)) (reachP l ll) size f' hd t) = r := fun r hr => by
        rw [List.take_add_one, hm, List.findSome?_append, hnone]
        simp [hr]
      (refine W.cnd (fun hsk => ?_) (fun hsk => ?_)) <;> (try (exfalso; first | omega | exact hsk trivial | contradiction))
      · have hsk : ¬ ltS hd m ∨ m ∈ hd :: t := by
          rw [hwy, ← hasB_iff]
          simpa using hsk
        refine W.xt ?_
        with_reducible apply At.next
        apply W.reg
        apply obn; rfl; rfl; rfl; apply Bin.add_in; omega
        apply omv; rfl; rfl
        apply OL.nil
        exact At.again (i + 1) ⟨by omega, hone _ (stepW_skip hsk)⟩ (by omega) (by exact Sub.au) (fun w' hw' => hw')
      have hsk1 : ltS hd m := by
        refine Decidable.byContradiction fun k => ?_
        simp [k] at hsk
      have hsk2 : ¬ m ∈ hd :: t := fun hmm => by
        rw [hwy] at hmm
        simp [hasB_iff.2 hmm] at hsk
      have hstep := stepW_go (lt := ltS) (nxt := fun s => srtS (impS l ll s)) (reach := reachP l ll) (size := size) (f := f') hsk1 hsk2
      have hmi : m ∈ impS l ll (lastOf hd t) := by
        rw [← srtS_mem, hnx]
        exact List.mem_of_getElem? hm
      have hway2 := hway.snoc hmi hsk1 hsk2 (imp_in hc _ m hmi)
      apply W.sk
      apply W.sr
      apply omv; rfl; rfl
      apply omv; rfl; rfl
      apply omv; rfl; rfl
      refine OL.callE (α := (Nat → Prop) × Option Addr × Nat) (fun z => .slice z.2.1 wy.length z.2.2) (fun _ => True) (fun z => Cls [row z2.heap.size z.1 z.2.1 wy.length z.2.2 9 1 (strs wy)] [z2, w]) rfl rfl (by exact Args.au) (fun w2 hw2 => ?_) ?_
      · refine (SClone_calls (some aw) cw wy w2 (by omega) (by omega) (hwk hw2 (by exact mau) (fun k hk => by exact NotOwned.au))).mono ?_
        rintro e w3 ⟨O, q', cap', h1, h2⟩
        exact ⟨(_, q', cap'), h1, trivial, hw2.callee h2 (hw2.kp z2 (by exact mau)).size⟩
      rintro ⟨Oc, qc, cc⟩ _
      simp only
      apply omv; rfl; rfl
      apply OL.buildSlice; rfl; rfl; rfl; exact Elems.au; rfl; rfl; (intro bk hbk; simp only [AllLe, and_true] at hbk)
      apply OL.append; rfl; rfl; rfl; rfl; exact Hole.au; exact .head _; exact Take.au; rfl; rfl; exact ⟨_, .head _, Nat.le_refl _⟩; omega; intro O1 g1 cap1
      apply omv; rfl; rfl
      obtain ⟨r, hr⟩ : ∃ r, walkS ltS (fun s => srtS (impS l ll s)) (reachP l ll) size f' (hd :: (t ++ [m])) = r := ⟨_, rfl⟩
      rw [List.cons_append, hr] at hstep
      refine OL.callE (α := (Option Addr × Nat) × World) (fun z => .slice z.1.1 (lenR r) z.1.2) (fun z => okR z.2 z.1.1 r) (fun z => Cls [] [z.2, z2, w]) rfl rfl (by exact Args.au) (fun w2 hw2 => ?_) ?_
      · have hk1 := hw2.toExt (s := w) (by exact mau) (fun k hk => by exact NotOwned.au)
        have hrow := SlAt.of_row (hw2.item (i := row z2.heap.size O1 (some ⟨g1, 0, none⟩) (wy.length + 1) cap1 9 1 (strs wy ++ [.string m])) (by exact mau))
        have e3 : (hd :: (t ++ [m])).length = wy.length + 1 := by simp; omega
        have e4 : strs wy ++ [Value.string m] = strs (hd :: (t ++ [m])) := by rw [← hwy]; simp [strs]
        rw [e4] at hrow
        have := ih f' (by omega) hd (t ++ [m]) (some ⟨g1, 0, none⟩) cap1 w2 hway2 (by simp; omega) (hx.trans hk1) hrow
        rw [e3, hr] at this
        refine this.mono ?_
        rintro e w3 ⟨qr, cr, h1, h2, h3⟩
        refine ⟨((qr, cr), w3), h1, h3, ((hw2.thin (.any (fun k hk => ?_) (.any (fun k hk => ⟨hk.1, Nat.le_trans hzw hk.1, trivial⟩) Thin.nil))).ext h2).note⟩
        rw [show k = bk from hk]
        exact ⟨hbk.1, hbk.2, trivial⟩
      rintro ⟨⟨qr, cr⟩, z3⟩ hok
      simp only at hok ⊢
      cases r with
      | none =>
        have hqr : qr = none := hok
        subst hqr
        apply oas; rfl; rfl
        apply OL.nsr
        apply omv; rfl; rfl
        apply obn; rfl; rfl; rfl; apply Bin.slice_nnil; rfl
        apply OL.nx
        refine W.cond rfl (fun hb => by simp at hb) (fun _ => ?_)
        apply W.skip
        with_reducible apply At.in_normal
        with_reducible apply At.next
        apply W.reg
        apply obn; rfl; rfl; rfl; apply Bin.add_in; omega
        apply omv; rfl; rfl
        apply OL.nil
        exact At.again (i + 1) ⟨by omega, hone _ hstep⟩ (by omega) (by exact Sub.au) (fun w' hw' => hw'.forget (by simp))
      | some c =>
        obtain ⟨⟨a3, rfl⟩, hsc⟩ := hok
        apply oas; rfl; rfl
        apply OL.nsr
        apply omv; rfl; rfl
        apply obn; rfl; rfl; rfl; apply Bin.slice_nnil; rfl
        apply OL.nx
        refine W.cond rfl (fun _ => ?_) (fun hb => by simp at hb)
        have hall : nx.findSome? (stepW ltS (fun s => srtS (impS l ll s)) (reachP l ll) size f' hd t) = some c := by
          rw [← List.take_append_drop (i + 1) nx, List.findSome?_append, hone _ hstep]
          rfl
        rw [hall]
        apply W.sr
        apply omv; rfl; rfl
        apply oas; rfl; rfl
        apply OL.nx
        refine W.rt ?_
        ((with_reducible apply At.fin1); rfl; rfl; intro w' hw')
        exact ⟨_, cr, rfl, by (exact hw'.fr), ⟨_, rfl⟩, hsc.keep (hw'.below (s := z3) (by exact mau) (Nat.le_refl _) (fun k hk => by exact NotOwned.au)) (hw'.kp z3 (by exact mau)).size⟩
    · obtain rfl : i = nx.length := by omega
      rw [List.take_length] at hnone
      rw [hnone]
      refine W.xt ?_
      with_reducible apply At.next
      apply W.sr
      apply oas; rfl; rfl
      apply OL.nx
      apply W.ret
      ((with_reducible apply At.fin1); rfl; rfl; intro w' hw')
      exact ⟨_, 0, rfl, by (exact hw'.fr), rfl⟩
end Go.Proofs.Ytgllgllbgojhfaa.mo

/- The walk of Cycle. Conditions: none. -/
namespace Go.Proofs.Ytgllgllbgojhfaa.mo
open Go.RowKit Go.Eng Go.Mo Go.Mc
set_option maxRecDepth 100000
/-- what Cycle gives -/
def cycE (l : List ByteArray) (ll : List (List ByteArray)) : Option (List ByteArray) × Int := if chk l ll ≠ 0 then (none, chk l ll) else match cycP l ll with
  | none => (none, 12)
  | some c => (some c, 0)
theorem Cycle_calls (q q' : Option Addr) (cap cap' : Nat) (l : List ByteArray) (ll : List (List ByteArray)) (w : World) (hlen : l.length ≤ 9223372036854775807) (hcap : l.length ≤ cap) (h : SlAt w w.heap.size q (strs l)) (hlen' : ll.length ≤ 9223372036854775807) (hsm : ∀ m ∈ ll, m.length ≤ 1048576) (h' : StrRows w w.heap.size q' ll) :
    Calls Try.prog 11 #[.slice q l.length cap, .slice q' ll.length cap'] w fun e w' => ∃ qr cr, e = .returned (.tuple #[.slice qr (lenR (cycE l ll).1) cr, .int .i64 (cycE l ll).2]) ∧ Ext w w' ∧ okR w' qr (cycE l ll).1 := by
  refine enter Try.func11 rfl Try.ntmps11 rfl (Cls.start w) ?_
  (simp only [argEnv, Nat.zero_add, Nat.reduceAdd])
  apply W.sr
  apply oas; rfl; rfl
  apply oas; rfl; rfl
  apply OL.nx
  apply W.seq
  apply W.sr
  apply omv; rfl; rfl
  apply omv; rfl; rfl
  (((first | (with_reducible apply OL.op) | (with_reducible apply QL.op)); (exact Guard.au); rfl; rfl); (exact Pev.call (v := .int .i64 (chk l ll)) rfl (by exact Args.au) (fun _ w2 hw2 => (Check_calls q q' cap cap' l ll w2 hlen hcap (h.keep (hw2.below (s := w) (by exact mau) (Nat.le_refl _) (fun k hk => by exact NotOwned.au)) (hw2.kp w (by exact mau)).size) hlen' (h'.keep (hw2.below (s := w) (by exact mau) (Nat.le_refl _) (fun k hk => by exact NotOwned.au)) (hw2.kp w (by exact mau)).size)).mono (fun e w3 h => ⟨h.1, hw2.ext h.2⟩))))
  apply oas; rfl; rfl
  apply OL.nsr
  apply omv; rfl; rfl
  apply obn; rfl; rfl; rfl; apply Bin.neq
  apply OL.nx
  (refine W.cnd (fun hchk => ?_) (fun hchk => ?_)) <;> (try (exfalso; first | omega | exact hchk trivial | contradiction))
  · have hchk : chk l ll ≠ 0 := by simpa using hchk
    have he : cycE l ll = (none, chk l ll) := by unfold cycE; rw [if_pos hchk]
    rw [he]
    apply W.sr
    apply omv; rfl; rfl
    apply oas; rfl; rfl
    apply oas; rfl; rfl
    apply OL.nx
    refine W.rt ?_
    ((with_reducible apply At.fin2); rfl; rfl; rfl; intro w' hw')
    exact ⟨none, 0, rfl, by (exact hw'.fr), rfl⟩
  have hc : chk l ll = 0 := by simpa using hchk
  obtain ⟨hl16, hll⟩ := chk_len hc
  have he : cycE l ll = match cycP l ll with | none => (none, 12) | some c => (some c, 0) := by unfold cycE; rw [if_neg (by simpa using hc)]
  apply W.sk
  apply W.sr
  apply omv; rfl; rfl
  refine OL.callE (α := Nat × World) (fun z => .func (.func 39) #[] #[.pointer (some ⟨z.1, 0, none⟩)]) (fun z => z.1 < z.2.heap.size ∧ z.2.cell? ⟨z.1, 0, none⟩ = some (.slice q l.length cap)) (fun z => Cls [] [z.2, w]) rfl rfl (by exact Args.au) (fun w2 hw2 => (Values_calls q cap _ w2).mono (fun e w3 ⟨b, h1, h2, h3, h4⟩ => ⟨(b, w3), h1, ⟨h3, h4⟩, (hw2.ext h2).note⟩)) ?_
  rintro ⟨b, z1⟩ ⟨hb1, hb2⟩
  simp only at hb1 hb2 ⊢
  obtain ⟨nx, hnx⟩ : ∃ nx, srtS l = nx := ⟨_, rfl⟩
  have hnl : nx.length = l.length := by rw [← hnx, srtS_len]
  skip
  refine OL.callE (α := (Option Addr × Nat) × World) (fun z => .slice z.1.1 nx.length z.1.2) (fun z => SlAt z.2 z.2.heap.size z.1.1 (strs nx) ∧ w.heap.size ≤ z.2.heap.size) (fun z => Cls [] [z.2, w]) rfl rfl (by exact Args.au) (fun w2 hw2 => ?_) ?_
  · obtain ⟨g1, g2⟩ := val_at hb1 hb2 hw2 (by exact mau) (fun k hk => by exact NotOwned.au)
    refine (Sorted_calls b q cap _ w2 g1 g2 (by omega) (h.keep (hw2.below (s := w) (by exact mau) (Nat.le_refl _) (fun k hk => by exact NotOwned.au)) (hw2.kp w (by exact mau)).size)).mono ?_
    rintro e w3 ⟨q3, cap3, h1, h2, h3⟩
    rw [hnx] at h3
    rw [← hnl] at h1
    exact ⟨((q3, cap3), w3), h1, ⟨h3, Nat.le_trans (hw2.kp w (by exact mau)).size h2.size⟩, ((hw2.forget (by simp)).ext h2).note⟩
  rintro ⟨⟨qn, cn⟩, z2⟩ ⟨hn, hzw⟩
  simp only at hn hzw ⊢
  apply oas; rfl; rfl
  apply OL.nx
  apply W.seq
  apply W.sr
  apply oas; rfl; rfl
  apply OL.nx
  apply W.block
  refine W.loop (G := Nat) (fun k1 => 1 ≤ k1 ∧ k1 ≤ l.length + 1 ∧ cycP l ll = cycS ltS (fun s => srtS (impS l ll s)) (reachP l ll) nx (k1 - 1) (l.length - (k1 - 1))) (fun k1 => l.length + 1 - k1)
    (fun k1 => [(8, true, .int .i64 (k1 : Int)), (7, true, .slice qn nx.length cn), (0, true, .slice q l.length cap), (1, true, .slice q' ll.length cap')])
    (fun k1 => Cls [] [z2, w]) 1 ⟨Nat.le_refl _, by omega, by rw [← hnx]; rfl⟩ (by exact Sub.au) (fun w' hw' => hw') ?_
  rintro k1 ⟨hk0, hk, hcyc⟩
  obtain ⟨k, rfl⟩ : ∃ k, k1 = k + 1 := ⟨k1 - 1, by omega⟩
  rw [Nat.add_sub_cancel] at hcyc
  apply W.seq
  apply W.sr
  apply omv; rfl; rfl
  apply omv; rfl; rfl
  apply oop; rfl; apply Pev.len_slice; rfl; exact yes; rfl
  apply obn; rfl; rfl; rfl; apply Bin.leq
  apply OL.nx
  (refine W.cnd (fun hkl => ?_) (fun hkl => ?_)) <;> (try (exfalso; first | omega | exact hkl trivial | contradiction))
  · obtain ⟨m', hm'⟩ : ∃ m', l.length - k = m' + 1 := ⟨l.length - k - 1, by omega⟩
    rw [hm', cycS] at hcyc
    apply W.sk
    apply W.sb
    apply W.sr
    apply omv; rfl; rfl
    apply oop; rfl; apply Pev.len_slice; rfl; exact yes; rfl
    apply omv; rfl; rfl
    apply OL.nx
    apply W.block
    refine W.loop (G := Nat) (fun i => i ≤ nx.length ∧ (nx.take i).findSome? (fun s => walkS ltS (fun s => srtS (impS l ll s)) (reachP l ll) (k + 1) k [s]) = none) (fun i => nx.length - i)
      (fun i => [(29, true, .int .i64 (i : Int)), (28, true, .int .i64 (nx.length : Int)), (27, true, .slice qn nx.length cn), (8, true, .int .i64 ((k + 1 : Nat) : Int)), (7, true, .slice qn nx.length cn), (0, true, .slice q l.length cap), (1, true, .slice q' ll.length cap')])
      (fun i => Cls [] [z2, w]) 0 ⟨Nat.zero_le _, rfl⟩ (by exact Sub.au) (fun w' hw' => hw') ?_
    rintro i ⟨hi, hnone⟩
    apply W.sr
    apply obn; rfl; rfl; rfl; apply Bin.lss
    apply OL.nx
    apply W.seq
    (refine W.cnd (fun hil => ?_) (fun hil => ?_)) <;> (try (exfalso; first | omega | exact hil trivial | contradiction))
    · obtain ⟨an, s, rfl, hanb, hs, hcs⟩ := str_at hn (show i < nx.length by omega)
      have hsl : s ∈ l := by
        rw [← srtS_mem, hnx]
        exact List.mem_of_getElem? hs
      have hone : ∀ r, walkS ltS (fun s => srtS (impS l ll s)) (reachP l ll) (k + 1) k [s] = r → (nx.take (i + 1)).findSome? (fun s => walkS ltS (fun s => srtS (impS l ll s)) (reachP l ll) (k + 1) k [s]) = r := fun r hr => by
        rw [List.take_add_one, hs, List.findSome?_append, hnone]
        simp [hr]
      apply W.sk
      apply W.sb
      apply W.sr
      apply oop; rfl; apply Pev.idx; rfl; exact yes; rfl; exact yes; rfl; rfl; intro hcond; omega
      apply oop; rfl; apply Pev.load_kept; rfl; exact yes; exact .head _; rfl; intro hcond; assumption; intro hcond; (rw [add_block]; assumption); intro hcond; exact NotOwned.au
      apply oas; rfl; rfl
      apply OL.nsr
      apply omv; rfl; rfl
      apply omv; rfl; rfl
      apply omv; rfl; rfl
      apply OL.buildSlice; rfl; rfl; rfl; exact Elems.au; rfl; rfl; (intro bk hbk; simp only [AllLe, and_true] at hbk)
      apply omv; rfl; rfl
      obtain ⟨r, hr⟩ : ∃ r, walkS ltS (fun s => srtS (impS l ll s)) (reachP l ll) (k + 1) k [s] = r := ⟨_, rfl⟩
      refine OL.callE (α := (Option Addr × Nat) × World) (fun z => .slice z.1.1 (lenR r) z.1.2) (fun z => okR z.2 z.1.1 r) (fun z => Cls [] [z.2, z2, w]) rfl rfl (by exact Args.au) (fun w2 hw2 => ?_) ?_
      · have hk1 := hw2.toExt (s := w) (by exact mau) (fun k hk => by exact NotOwned.au)
        have hi1 := hw2.item (i := blk bk 9 [.string s]) (by exact mau)
        have := walk_calls q q' cap cap' l ll w hc hsm hcap h h' (k + 1) (by omega) k s [] (some ⟨bk, 0, none⟩) 1 w2 (Way.one hsl) (by simp) hk1 (SlAt.of_blk (o := 0) hi1 (fun j v hj => by rw [Nat.zero_add]; exact hj))
        rw [hr] at this
        refine this.mono ?_
        rintro e w3 ⟨qr, cr, h1, h2, h3⟩
        refine ⟨((qr, cr), w3), h1, h3, ((hw2.thin (.any (fun k hk => ?_) Thin.nil)).ext h2).note⟩
        rw [show k = bk from hk]
        exact ⟨hbk.1, hbk.2, trivial⟩
      rintro ⟨⟨qr, cr⟩, z3⟩ hok
      simp only at hok ⊢
      cases r with
      | none =>
        have hqr : qr = none := hok
        subst hqr
        apply oas; rfl; rfl
        apply OL.nsr
        apply omv; rfl; rfl
        apply obn; rfl; rfl; rfl; apply Bin.slice_nnil; rfl
        apply OL.nx
        refine W.cond rfl (fun hb => by simp at hb) (fun _ => ?_)
        apply W.skip
        with_reducible apply At.in_normal
        with_reducible apply At.next
        apply W.reg
        apply obn; rfl; rfl; rfl; apply Bin.add_in; omega
        apply omv; rfl; rfl
        apply OL.nil
        exact At.again (i + 1) ⟨by omega, hone _ hr⟩ (by omega) (by exact Sub.au) (fun w' hw' => hw'.forget (by simp))
      | some c =>
        obtain ⟨⟨a3, rfl⟩, hsc⟩ := hok
        have hall : nx.findSome? (fun s => walkS ltS (fun s => srtS (impS l ll s)) (reachP l ll) (k + 1) k [s]) = some c := by
          rw [← List.take_append_drop (i + 1) nx, List.findSome?_append, hone _ hr]
          rfl
        rw [hall] at hcyc
        have he2 : cycE l ll = (some c, 0) := by rw [he, hcyc]
        rw [he2]
        apply oas; rfl; rfl
        apply OL.nsr
        apply omv; rfl; rfl
        apply obn; rfl; rfl; rfl; apply Bin.slice_nnil; rfl
        apply OL.nx
        refine W.cond rfl (fun _ => ?_) (fun hb => by simp at hb)
        apply W.sr
        apply omv; rfl; rfl
        apply oas; rfl; rfl
        apply oas; rfl; rfl
        apply OL.nx
        refine W.rt ?_
        ((with_reducible apply At.fin2); rfl; rfl; rfl; intro w' hw')
        exact ⟨_, cr, rfl, by (exact hw'.fr), ⟨_, rfl⟩, hsc.keep (hw'.below (s := z3) (by exact mau) (Nat.le_refl _) (fun k hk => by exact NotOwned.au)) (hw'.kp z3 (by exact mau)).size⟩
    · obtain rfl : i = nx.length := by omega
      rw [List.take_length] at hnone
      rw [hnone] at hcyc
      refine W.xt ?_
      with_reducible apply At.in_normal
      with_reducible apply At.next
      apply W.reg
      apply omv; rfl; rfl
      apply obn; rfl; rfl; rfl; apply Bin.add_in; omega
      apply oas; rfl; rfl
      apply OL.nil
      exact At.again (k + 2) ⟨by omega, by omega, by rw [hcyc, show k + 2 - 1 = k + 1 by omega, show l.length - (k + 1) = m' by omega]⟩ (by omega) (by exact Sub.au) (fun w' hw' => hw')
  · obtain rfl : k = l.length := by omega
    rw [Nat.sub_self] at hcyc
    have he2 : cycE l ll = (none, 12) := by rw [he, hcyc]; rfl
    rw [he2]
    refine W.xt ?_
    with_reducible apply At.next
    apply W.sr
    apply oas; rfl; rfl
    apply oas; rfl; rfl
    apply OL.nx
    apply W.ret
    ((with_reducible apply At.fin2); rfl; rfl; rfl; intro w' hw')
    exact ⟨none, 0, rfl, by (exact hw'.fr), rfl⟩
end Go.Proofs.Ytgllgllbgojhfaa.mo

/- Things that a callee made join the caller's. General. No condition. -/
namespace Go.Eng
open Go.RowKit
theorem Cls.pool_app {α μ : Type} {R : Rel α μ} {w : World} {B B' : Nat} {O O' : Nat → Prop} {l l' : List (α × μ)} {H : List Item} {S : List World} (h : Cls (pool R B' O' l' :: pool R B O l :: H) S w) (hB : B ≤ B') : Cls (pool R B (fun k => O k ∨ (B' ≤ k ∧ O' k)) (l ++ l') :: H) S w := by
  have hr := h.item (i := pool R B' O' l') (by simp)
  have hp := h.item (i := pool R B O l) (by simp)
  have hd := h.dj
  rw [List.pairwise_cons, List.pairwise_cons] at hd
  obtain ⟨hr1, hp1, hH⟩ := hd
  refine ⟨fun i hi => ?_, fun i hi => ?_, List.pairwise_cons.2 ⟨fun j hj k hk hjk => ?_, hH⟩, fun s hs => (h.kp s hs).mono fun k _ ⟨i, hi, hk⟩ => ?_⟩
  · rcases List.mem_cons.1 hi with rfl | hi
    · intro z hz
      rcases List.mem_append.1 hz with hz | hz
      · exact R.mono (fun k hk => ⟨hk.1, .inl hk.2⟩) (hp z hz)
      · exact R.mono (fun k hk => ⟨Nat.le_trans hB hk.1, .inr hk⟩) (hr z hz)
    · exact h.holds _ (.tail _ (.tail _ hi))
  · rcases List.mem_cons.1 hi with rfl | hi
    · rintro k ⟨h1, h2 | h2⟩
      · exact h.lt (pool R B O l) (.tail _ (.head _)) k ⟨h1, h2⟩
      · exact h.lt (pool R B' O' l') (.head _) k h2
    · exact h.lt _ (.tail _ (.tail _ hi))
  · obtain ⟨h1, h2 | h2⟩ := hk
    · exact hp1 j hj k ⟨h1, h2⟩ hjk
    · exact hr1 j (.tail _ hj) k h2 hjk
  · rcases List.mem_cons.1 hi with rfl | hi
    · exact ⟨_, .head _, Nat.le_trans hB hk.1, .inr hk⟩
    · rcases List.mem_cons.1 hi with rfl | hi
      · exact ⟨_, .head _, hk.1, .inl hk.2⟩
      · exact ⟨i, .tail _ hi, hk⟩
end Go.Eng

/- The walks of the reference's lessStrings and Cycles. Conditions: none. -/
namespace Go.Proofs.Ytgllgllbgojhfaa.mo
open Go.RowKit Go.Eng Go.Mo Go.Mc
set_option maxRecDepth 100000
theorem lessB_cons {a b : List ByteArray} {i : Nat} {x y : ByteArray} (hx : a[i]? = some x) (hy : b[i]? = some y) : lessB (a.drop i) (b.drop i) = if x = y then lessB (a.drop (i + 1)) (b.drop (i + 1)) else decide (ltS x y) := by
  have h1 := (List.getElem?_eq_some_iff.1 hx)
  have h2 := (List.getElem?_eq_some_iff.1 hy)
  obtain ⟨h1, e1⟩ := h1
  obtain ⟨h2, e2⟩ := h2
  rw [List.drop_eq_getElem_cons h1, List.drop_eq_getElem_cons h2, lessB, e1, e2]
theorem less_calls (q1 q2 : Option Addr) (c1 c2 : Nat) (a b : List ByteArray) (w : World) (hlen : a.length ≤ 100) (hab : a.length = b.length) (h1 : SlAt w w.heap.size q1 (strs a)) (h2 : SlAt w w.heap.size q2 (strs b)) :
    Calls Try.prog 25 #[.slice q1 a.length c1, .slice q2 b.length c2] w fun e w' => e = .returned (.bool (lessB a b)) ∧ Ext w w' := by
  refine enter Try.func25 rfl Try.ntmps25 rfl (Cls.start w) ?_
  (simp only [argEnv, Nat.zero_add, Nat.reduceAdd])
  apply W.sr
  apply oas; rfl; rfl
  apply OL.nx
  apply W.seq
  apply W.sr
  apply omv; rfl; rfl
  apply oop; rfl; apply Pev.len_slice; rfl; exact yes; rfl
  apply omv; rfl; rfl
  apply OL.nx
  apply W.block
  refine W.loop (G := Nat) (fun i => i ≤ a.length ∧ lessB (a.drop i) (b.drop i) = lessB a b) (fun i => a.length - i)
    (fun i => [(8, true, .int .i64 (i : Int)), (7, true, .int .i64 (a.length : Int)), (0, true, .slice q1 a.length c1), (1, true, .slice q2 b.length c2)])
    (fun i => Cls [] [w]) 0 ⟨Nat.zero_le _, rfl⟩ (by exact Sub.au) (fun w' hw' => hw') ?_
  rintro i ⟨hi, hl⟩
  apply W.sr
  apply obn; rfl; rfl; rfl; apply Bin.lss
  apply OL.nx
  apply W.seq
  (refine W.cnd (fun hil => ?_) (fun hil => ?_)) <;> (try (exfalso; first | omega | exact hil trivial | contradiction))
  · obtain ⟨x1, x, rfl, hxb, hx, hxc⟩ := str_at h1 (show i < a.length by omega)
    obtain ⟨y1, y, rfl, hyb, hy, hyc⟩ := str_at h2 (show i < b.length by omega)
    rw [lessB_cons hx hy] at hl
    apply W.sk
    apply W.sb
    apply W.sr
    apply omv; rfl; rfl
    apply oas; rfl; rfl
    apply OL.nx
    apply W.seq
    apply W.regd0; decide +kernel; kernel_rfl; decide +kernel; exact fun w hw => hw.drew
    apply qmv; rfl; rfl
    apply qmv; rfl; rfl
    apply qop; rfl; apply Pev.idx; rfl; exact yes; rfl; exact yes; rfl; rfl; intro hcond; omega
    apply qop; rfl; apply Pev.load_kept; rfl; exact yes; exact .head _; rfl; intro hcond; assumption; intro hcond; (rw [add_block]; assumption); intro hcond; exact NotOwned.au
    apply qmv; rfl; rfl
    apply qmv; rfl; rfl
    apply qop; rfl; apply Pev.idx; rfl; exact yes; rfl; exact yes; rfl; rfl; intro hcond; omega
    apply qop; rfl; apply Pev.load_kept; rfl; exact yes; exact .head _; rfl; intro hcond; assumption; intro hcond; (rw [add_block]; assumption); intro hcond; exact NotOwned.au
    apply qbn; rfl; rfl; rfl; apply Bin.str_neq
    apply QL.nil
    with_reducible apply At.next
    (refine W.cnd (fun hd => ?_) (fun hd => ?_)) <;> (try (exfalso; first | omega | exact hd trivial | contradiction))
    · have hd : ¬ x = y := by simpa using hd
      rw [if_neg hd] at hl
      apply W.seq
      apply W.regd0; decide +kernel; kernel_rfl; decide +kernel; exact fun w hw => hw.drew
      apply qmv; rfl; rfl
      apply qmv; rfl; rfl
      apply qop; rfl; apply Pev.idx; rfl; exact yes; rfl; exact yes; rfl; rfl; intro hcond; omega
      apply qop; rfl; apply Pev.load_kept; rfl; exact yes; exact .head _; rfl; intro hcond; assumption; intro hcond; (rw [add_block]; assumption); intro hcond; exact NotOwned.au
      apply qmv; rfl; rfl
      apply qmv; rfl; rfl
      apply qop; rfl; apply Pev.idx; rfl; exact yes; rfl; exact yes; rfl; rfl; intro hcond; omega
      apply qop; rfl; apply Pev.load_kept; rfl; exact yes; exact .head _; rfl; intro hcond; assumption; intro hcond; (rw [add_block]; assumption); intro hcond; exact NotOwned.au
      apply qbn; rfl; rfl; rfl; apply Bin.str_lss
      apply qas; rfl; rfl
      apply QL.nil
      with_reducible apply At.next
      refine W.rt ?_
      ((with_reducible apply At.fin1); rfl; rfl; intro w' hw')
      exact ⟨by rw [← hl, less_ltS], by (exact hw'.fr)⟩
    · have hd : x = y := by simpa using hd
      rw [if_pos hd] at hl
      apply W.skip
      with_reducible apply At.in_normal
      with_reducible apply At.next
      apply W.reg
      apply obn; rfl; rfl; rfl; apply Bin.add_in; omega
      apply omv; rfl; rfl
      apply OL.nil
      exact At.again (i + 1) ⟨by omega, hl⟩ (by omega) (by exact Sub.au) (fun w' hw' => hw')
  · have : i = a.length := by omega
    subst this
    rw [List.drop_eq_nil_of_le (Nat.le_refl _)] at hl
    refine W.xt ?_
    with_reducible apply At.next
    apply W.sr
    apply oas; rfl; rfl
    apply OL.nx
    apply W.ret
    ((with_reducible apply At.fin1); rfl; rfl; intro w' hw')
    exact ⟨by rw [← hl]; rfl, by (exact hw'.fr)⟩
/-! ### Cycles -/
structure StrOk (w : World) (O : Nat → Prop) (x : List ByteArray) (y : Option Addr × Nat) : Prop where
  len : x.length ≤ 100
  pos : 0 < x.length
  at_ : 0 < x.length → ∃ a, y.1 = some a ∧ O a.block ∧ CellsAt w a (strs x)
def strR : Rel (List ByteArray) (Option Addr × Nat) where
  sz := 1
  pos := by decide
  cells := fun x y => [.slice y.1 x.length y.2]
  ok := StrOk
  len := fun _ _ => rfl
  stab := fun hk h => ⟨h.len, h.pos, fun hl => by
    obtain ⟨a, h1, h2, h3⟩ := h.at_ hl
    exact ⟨a, h1, h2, cells_stab (hk _ h2) h3⟩⟩
  mono := fun hk h => ⟨h.len, h.pos, fun hl => by
    obtain ⟨a, h1, h2, h3⟩ := h.at_ hl
    exact ⟨a, h1, hk _ h2, h3⟩⟩
structure CS where
  i : Nat
  O : Nat → Prop
  q : Option Addr
  cap : Nat
  O2 : Nat → Prop
  L : List (List ByteArray × (Option Addr × Nat))
def lstN (j i : Nat) : Nat := if j < i then j else 0
theorem lst_zero (j : Nat) : lstN j 0 = 0 := rfl
theorem lst_hit (j : Nat) : lstN j (j + 1) = j := if_pos (by omega)
theorem lst_miss {j i : Nat} (h : i ≠ j) : lstN j (i + 1) = lstN j i := by
  unfold lstN
  by_cases hj : j < i
  · rw [if_pos hj, if_pos (by omega)]
  · rw [if_neg hj, if_neg (by omega)]
theorem lst_end {j n : Nat} (h : j < n) : lstN j n = j := if_pos h
theorem Cycles_calls (q q' : Option Addr) (cap cap' : Nat) (l : List ByteArray) (ll : List (List ByteArray)) (s0 : World) (hc : chk l ll = 0) (h6 : l.length ≤ 6) (hsm : ∀ m ∈ ll, m.length ≤ 1048576) (hcap : l.length ≤ cap) (h : SlAt s0 s0.heap.size q (strs l)) (h' : StrRows s0 s0.heap.size q' ll) :
    ∀ (f : Nat) (hd : ByteArray) (t : List ByteArray) (qw : Option Addr) (cw : Nat) (w : World), f ≤ 6 → Mc.Way l (impS l ll) ltS hd t → l.length < f + (t.length + 1) → Ext s0 w → SlAt w w.heap.size qw (strs (hd :: t)) →
    Calls Try.prog 24 #[.slice q l.length cap, .slice q' ll.length cap', .slice qw (hd :: t).length cw] w fun e w' => ∃ qr cr O O2 L, e = .returned (.slice qr (L.length) cr) ∧ L.map Prod.fst = cyclesR ltS l (impS l ll) f (hd :: t) ∧ Cls [row w.heap.size O qr L.length cr 22 1 (cat strR.c L), pool strR w.heap.size O2 L] [w] w' := by
  obtain ⟨hl16, hll⟩ := chk_len hc
  intro f
  induction f with
  | zero =>
    intro hd t qw cw w _ hway hfs _ _
    have := nodup_le2 hway.nod hway.inn
    simp at this
    omega
  | succ f ih =>
  intro hd t qw cw w hf6 hway hfs hx hw
  have h := h.ext hx (Nat.le_refl _)
  have h' := rows_ext h' hx
  have hwn := nodup_le2 hway.nod hway.inn
  obtain ⟨wy, hwy⟩ : ∃ wy, hd :: t = wy := ⟨_, rfl⟩
  have hwl : wy.length = t.length + 1 := by rw [← hwy]; rfl
  rw [hwy] at hwn
  have hlast : wy[wy.length - 1]? = some (lastOf hd t) := by
    obtain ⟨w1, e1⟩ := lastOf_eq hd t
    have e2 : wy = w1 ++ [lastOf hd t] := hwy.symm.trans e1
    rw [e2, List.length_append, List.length_singleton, Nat.add_sub_cancel, List.getElem?_append_right (Nat.le_refl _), Nat.sub_self]
    rfl
  have hfst : wy[0]? = some hd := by rw [← hwy]; rfl
  have hll2 : lastOf hd t ∈ l := hway.inn _ (by unfold lastOf; exact List.getLast_mem _)
  obtain ⟨hx1, hx2⟩ := ix_of hll2
  obtain ⟨hr1, hr2⟩ := imp_row hll hll2
  obtain ⟨a, q2, cap2, hqa, hab, hcell, hmcap, hmlen, hmst⟩ := h'.get _ _ hr2
  subst hqa
  have him : (impS l ll (lastOf hd t)).length ≤ 1048576 := hsm _ (List.mem_of_getElem? hr2)
  rw [hwy] at hw
  obtain ⟨aw, rfl, hawb, hcw⟩ := hw (by rw [strs_len]; omega)
  have hcl : w.cell? (aw.add (((wy.length : Int) - 1).toNat * 1)) = some (.string (lastOf hd t)) := by
    rw [show ((wy.length : Int) - 1).toNat * 1 = wy.length - 1 by omega]
    exact hcw _ _ (by simp [strs, hlast])
  have hc0 : w.cell? (aw.add (0 * 1)) = some (.string hd) := hcw _ _ (by simp [strs, hfst])
  have hwk : ∀ {H : List Eng.Item} {S : List World} {w2 : World}, Cls H S w2 → w ∈ S → (∀ k, k < w.heap.size → NotOwned H k) → SlAt w2 w2.heap.size (some aw) (strs wy) := fun hw2 hm hno => SlAt.keep (q := some aw) (fun _ => ⟨aw, rfl, hawb, hcw⟩) (hw2.below hm (Nat.le_refl _) hno) (hw2.kp w hm).size
  have hsx := hx.size
  refine enter Try.func24 rfl Try.ntmps24 rfl (Cls.start w) ?_
  rw [hwy]
  (simp only [argEnv, Nat.zero_add, Nat.reduceAdd])
  apply W.sr
  apply oas; rfl; rfl
  apply OL.nsr
  apply oas; rfl; rfl
  apply OL.nsr
  apply oas; rfl; rfl
  apply OL.nx
  apply W.seq
  apply W.sr
  apply omv; rfl; rfl
  apply oop; rfl; apply Pev.len_slice; rfl; exact yes; rfl
  apply omv; rfl; rfl
  apply OL.nx
  apply W.block
  refine W.loop (G := Nat) (fun i => i ≤ l.length) (fun i => l.length - i)
    (fun i => [(14, true, .int .i64 (i : Int)), (13, true, .int .i64 (l.length : Int)), (12, true, .slice q l.length cap), (8, true, .int .i64 (lstN (ix l (lastOf hd t)) i : Int)), (7, true, .slice none 0 0), (0, true, .slice q l.length cap), (1, true, .slice (some a) ll.length cap'), (2, true, .slice (some aw) wy.length cw)])
    (fun i => Cls [] [w]) 0 (Nat.zero_le _) (by rw [lst_zero]; exact Sub.au) (fun w' hw' => hw') ?_
  intro i hi
  apply W.sr
  apply obn; rfl; rfl; rfl; apply Bin.lss
  apply OL.nx
  apply W.seq
  (refine W.cnd (fun hil => ?_) (fun hil => ?_)) <;> (try (exfalso; first | omega | exact hil trivial | contradiction))
  · obtain ⟨an, u, rfl, hanb, hu, hcu⟩ := str_at h (show i < l.length by omega)
    apply W.sk
    apply W.sb
    apply W.sr
    apply omv; rfl; rfl
    apply oas; rfl; rfl
    apply OL.nx
    apply W.seq
    apply W.regd0; decide +kernel; kernel_rfl; decide +kernel; exact fun w hw => hw.drew
    apply qmv; rfl; rfl
    apply qmv; rfl; rfl
    apply qop; rfl; apply Pev.idx; rfl; exact yes; rfl; exact yes; rfl; rfl; intro hcond; omega
    apply qop; rfl; apply Pev.load_kept; rfl; exact yes; exact .head _; rfl; intro hcond; assumption; intro hcond; (rw [add_block]; assumption); intro hcond; exact NotOwned.au
    apply qmv; rfl; rfl
    apply qmv; rfl; rfl
    apply qop; rfl; apply Pev.len_slice; rfl; exact yes; rfl
    apply qbn; rfl; rfl; rfl; apply Bin.sub_in; omega
    apply qop; rfl; apply Pev.idxI; rfl; exact yes; rfl; exact yes; rfl; intro hcond; omega
    apply qop; rfl; apply Pev.load_kept; rfl; exact yes; exact .head _; rfl; intro hcond; assumption; intro hcond; (rw [add_block]; assumption); intro hcond; exact NotOwned.au
    apply qbn; rfl; rfl; rfl; apply Bin.str_eql
    apply QL.nil
    with_reducible apply At.next
    (refine W.cnd (fun heq => ?_) (fun heq => ?_)) <;> (try (exfalso; first | omega | exact heq trivial | contradiction))
    · have heq : u = lastOf hd t := by simpa using heq
      rw [heq] at hu
      have := names_nodup hc hu hx2
      subst this
      apply W.reg
      apply omv; rfl; rfl
      apply oas; rfl; rfl
      apply OL.nil
      with_reducible apply At.in_normal
      with_reducible apply At.next
      apply W.reg
      apply obn; rfl; rfl; rfl; apply Bin.add_in; omega
      apply omv; rfl; rfl
      apply OL.nil
      exact At.again (ix l (lastOf hd t) + 1) (by omega) (by omega) (by rw [lst_hit]; exact Sub.au) (fun w' hw' => hw')
    · have hne : i ≠ ix l (lastOf hd t) := fun e => by
        subst e
        rw [hx2] at hu
        exact heq (by simpa using (Option.some.inj hu).symm)
      apply W.skip
      with_reducible apply At.in_normal
      with_reducible apply At.next
      apply W.reg
      apply obn; rfl; rfl; rfl; apply Bin.add_in; omega
      apply omv; rfl; rfl
      apply OL.nil
      exact At.again (i + 1) (by omega) (by omega) (by rw [lst_miss hne]; exact Sub.au) (fun w' hw' => hw')
  obtain rfl : i = l.length := by omega
  rw [lst_end (List.getElem?_eq_some_iff.1 hx2).1]
  refine W.xt ?_
  with_reducible apply At.next
  apply W.seq
  apply W.seq
  apply W.regd0; decide +kernel; kernel_rfl; decide +kernel; exact fun w hw => hw.drew
  apply qmv; rfl; rfl
  apply qmv; rfl; rfl
  apply qop; rfl; apply Pev.idx; rfl; exact yes; rfl; exact yes; rfl; rfl; intro hcond; omega
  apply qop; rfl; apply Pev.load_kept; rfl; exact yes; exact .head _; rfl; intro hcond; assumption; intro hcond; (rw [add_block]; assumption); intro hcond; exact NotOwned.au
  apply qmv; rfl; rfl
  apply qop; rfl; apply Pev.idx; rfl; exact yes; rfl; exact yes; rfl; rfl; intro hcond; (simp only [Bool.and_eq_true, Bool.or_eq_true, Bool.not_eq_true', decide_eq_true_eq, decide_eq_false_iff_not] at *; omega)
  apply qop; rfl; apply Pev.load_kept; rfl; exact yes; exact .head _; rfl; intro hcond; assumption; intro hcond; assumption; intro hcond; exact NotOwned.au
  (((first | (with_reducible apply OL.op) | (with_reducible apply QL.op)); (exact Guard.au); rfl; rfl); (exact Pev.call (v := .bool (hasB (impS l ll (lastOf hd t)) hd)) rfl (by exact Args.au) (fun _ w2 hw2 => (has_calls q2 cap2 (impS l ll (lastOf hd t)) hd w2 (by omega) (hmst.keep (hw2.below (s := w) (by exact mau) (Nat.le_refl _) (fun k hk => by exact NotOwned.au)) (hw2.kp w (by exact mau)).size)).mono (fun e w3 h => ⟨h.1, hw2.ext h.2⟩))))
  apply QL.nil
  with_reducible apply At.next
  have hcl0 : ∀ s, (nextC ltS l (impS l ll) f hd t s).length ≤ 7 ^ f := fun s => next_len h6 s
  have h7 : 7 ^ f ≤ 16807 := Nat.le_trans (Nat.pow_le_pow_right (by decide) (show f ≤ 5 by omega)) (by decide)
  refine W.joinx (G := CS) (fun g => g.L.map Prod.fst = preC (impS l ll) hd t) (fun g => [(8, true, .int .i64 (ix l (lastOf hd t) : Int)), (7, true, .slice g.q g.L.length g.cap), (0, true, .slice q l.length cap), (1, true, .slice (some a) ll.length cap'), (2, true, .slice (some aw) wy.length cw)])
    (fun g => Cls [row w.heap.size g.O g.q g.L.length g.cap 22 1 (cat strR.c g.L), pool strR w.heap.size g.O2 g.L] [w]) ?_ ?_
  · (refine W.cnd (fun hhd => ?_) (fun hhd => ?_)) <;> (try (exfalso; first | omega | exact hhd trivial | contradiction))
    · have hhd : hd ∈ impS l ll (lastOf hd t) := hasB_iff.1 (by simpa using hhd)
      apply W.reg
      apply omv; rfl; rfl
      apply OL.buildSlice; rfl; rfl; rfl; exact Elems.au; rfl; rfl; (intro bk hbk; simp only [AllLe, and_true] at hbk)
      apply omv; rfl; rfl
      refine OL.cls (fun w' hw' => hw'.blk_row (base := w.heap.size) (m := 0) (sz := 1) (by omega) rfl (by decide)) ?_
      (apply OL.appendK (news := strs wy)); rfl; rfl; rfl; rfl; (exact Hole.au); (exact fun w2 hw2 => hwk hw2 (by exact mau) (fun k hk => by exact NotOwned.au)); (rw [strs_len, Nat.mul_one]); (exact strs_oneL _); (exact ⟨w, .head _, Nat.le_refl _⟩); (omega); (intro Oa qa ca)
      simp only [Nat.zero_add, List.nil_append]
      refine OL.cls (fun w' hw' => (hw'.pool_nil strR w.heap.size).row_nil w.heap.size 22 1) ?_
      apply OL.buildSlice; rfl; rfl; rfl; exact Elems.au; rfl; rfl; (intro bk hbk; simp only [AllLe, and_true] at hbk)
      apply OL.append; rfl; rfl; rfl; rfl; exact Hole.au; exact .head _; exact Take.au; rfl; rfl; exact ⟨_, .head _, Nat.le_refl _⟩; omega; intro O1 g1 cap1
      apply oas; rfl; rfl
      apply OL.nil
      refine At.joinedx ⟨0, O1, some ⟨g1, 0, none⟩, cap1, fun k => Oa k ∨ False, [(wy, (qa, ca))]⟩ (by rw [preC_yes hhd, hwy]; rfl) (by exact Sub.au) (fun w' hw' => ?_)
      have h1 := hw'.thin (.any (fun k hk => by rw [show k = bk from hk]; exact ⟨hbk, trivial⟩) .same)
      have h2 := h1.perm (List.reverse_perm _).symm
      have h3 := Cls.pool_row (R := strR) (x := wy) (y := (qa, ca)) h2 (fun hx => by
        rcases hx with ⟨a1, h1, h2, h3⟩ | h0
        · exact ⟨by omega, by omega, fun _ => ⟨a1, h1, ⟨h2.1, .inl h2.2⟩, h3⟩⟩
        · have : wy = [] := by simpa [strs] using h0
          rw [this] at hwl
          simp at hwl)
      exact h3.flip
    · have hhd : ¬ hd ∈ impS l ll (lastOf hd t) := fun h => by
        have := hasB_iff.2 h
        simp [this] at hhd
      apply W.skip
      refine At.joinedx ⟨0, fun _ => False, none, 0, fun _ => False, []⟩ (by rw [preC_no hhd]; rfl) (by exact Sub.au) (fun w' hw' => ?_)
      exact (hw'.pool_nil strR w.heap.size).row_nil w.heap.size 22 1
  rintro ⟨_, O, q1, cap1, O2, L⟩ hL
  simp only at hL ⊢
  apply W.seq
  apply W.sr
  apply omv; rfl; rfl
  apply oop; rfl; apply Pev.len_slice; rfl; exact yes; rfl
  apply omv; rfl; rfl
  apply OL.nx
  apply W.block
  refine W.loop (G := CS) (fun g => g.i ≤ l.length ∧ g.L.map Prod.fst = preC (impS l ll) hd t ++ (l.take g.i).flatMap (nextC ltS l (impS l ll) f hd t)) (fun g => l.length - g.i)
    (fun g => [(46, true, .int .i64 (g.i : Int)), (45, true, .int .i64 (l.length : Int)), (44, true, .slice q l.length cap), (8, true, .int .i64 (ix l (lastOf hd t) : Int)), (7, true, .slice g.q g.L.length g.cap), (0, true, .slice q l.length cap), (1, true, .slice (some a) ll.length cap'), (2, true, .slice (some aw) wy.length cw)])
    (fun g => Cls [row w.heap.size g.O g.q g.L.length g.cap 22 1 (cat strR.c g.L), pool strR w.heap.size g.O2 g.L] [w]) ⟨0, O, q1, cap1, O2, L⟩ ⟨Nat.zero_le _, by rw [hL]; simp⟩ (by exact Sub.au) (fun w' hw' => hw') ?_
  clear hL
  rintro ⟨i, O, q1, cq, O2, L⟩ ⟨hi, hL⟩
  simp only at hi hL ⊢
  have hLl : L.length ≤ 1 + 6 * 16807 := by
    have h1 := congrArg List.length hL
    rw [List.length_map, List.length_append] at h1
    have h2 := preC_len (imp := impS l ll) (h := hd) (t := t)
    have h3 := flat_le hcl0 (l.take i)
    have h4 : (l.take i).length ≤ 6 := by rw [List.length_take]; omega
    have h5 : (l.take i).length * 7 ^ f ≤ 6 * 16807 := Nat.mul_le_mul h4 h7
    omega
  apply W.sr
  apply obn; rfl; rfl; rfl; apply Bin.lss
  apply OL.nx
  apply W.seq
  (refine W.cnd (fun hil => ?_) (fun hil => ?_)) <;> (try (exfalso; first | omega | exact hil trivial | contradiction))
  · obtain ⟨an, s, rfl, hanb, hs, hcs⟩ := str_at h (show i < l.length by omega)
    have hsl : s ∈ l := List.mem_of_getElem? hs
    apply W.sk
    apply W.sb
    apply W.sr
    apply oop; rfl; apply Pev.idx; rfl; exact yes; rfl; exact yes; rfl; rfl; intro hcond; omega
    apply oop; rfl; apply Pev.load_kept; rfl; exact yes; exact .head _; rfl; intro hcond; assumption; intro hcond; (rw [add_block]; assumption); intro hcond; exact NotOwned.au
    apply oas; rfl; rfl
    apply OL.nsr
    apply omv; rfl; rfl
    apply omv; rfl; rfl
    apply oop; rfl; apply Pev.idx; rfl; exact yes; rfl; exact yes; rfl; rfl; intro hcond; (simp only [Bool.and_eq_true, Bool.or_eq_true, Bool.not_eq_true', decide_eq_true_eq, decide_eq_false_iff_not] at *; omega)
    apply oop; rfl; apply Pev.load_kept; rfl; exact yes; exact .head _; rfl; intro hcond; assumption; intro hcond; assumption; intro hcond; exact NotOwned.au
    (((first | (with_reducible apply OL.op) | (with_reducible apply QL.op)); (exact Guard.au); rfl; rfl); (refine Pev.bin (r := .bool (decide (ltS hd s))) rfl (by (first | exact fun _ => rfl | exact fun h => h | (intro h; simp_all; done))) rfl (by (first | exact fun _ => rfl | exact fun h => h | (intro h; simp_all; done))) (fun _ => gtrS)))
    apply omv; rfl; rfl
    apply oy; rfl; rfl; rfl; apply Pev.move; rfl; exact yes
    apply oy; rfl; rfl; rfl; apply Pev.move; rfl; exact yes
    apply oy; rfl; rfl; rfl; apply Pev.idx; rfl; exact fun h => h; rfl; exact fun h => h; rfl; rfl; intro hcond; omega
    apply oy; rfl; rfl; rfl; apply Pev.load_kept; rfl; exact fun h => h; exact .head _; rfl; intro hcond; assumption; intro hcond; (rw [add_block]; assumption); intro hcond; exact NotOwned.au
    apply oy; rfl; rfl; rfl; apply Pev.move; rfl; exact yes
    (((first | (with_reducible apply OL.op) | (with_reducible apply QL.op)); (exact Guard.au); rfl; rfl); (exact Pev.call (v := .bool (hasB (impS l ll (lastOf hd t)) s)) rfl (by exact Args.au) (fun _ w2 hw2 => (has_calls q2 cap2 (impS l ll (lastOf hd t)) s w2 (by omega) (hmst.keep (hw2.below (s := w) (by exact mau) (Nat.le_refl _) (fun k hk => by exact NotOwned.au)) (hw2.kp w (by exact mau)).size)).mono (fun e w3 h => ⟨h.1, hw2.ext h.2⟩))))
    apply oop; rfl; apply Pev.pick_and; rfl; exact yes; rfl; exact fun h => h
    apply omv; rfl; rfl
    apply oy; rfl; rfl; rfl; apply Pev.move; rfl; exact yes
    apply oy; rfl; rfl; rfl; apply Pev.move; rfl; exact yes
    (((first | (with_reducible apply OL.op) | (with_reducible apply QL.op)); (exact Guard.au); rfl; rfl); (exact Pev.call (v := .bool (hasB wy s)) rfl (by exact Args.au) (fun _ w2 hw2 => (has_calls (some aw) cw wy s w2 (by omega) (hwk hw2 (by exact mau) (fun k hk => by exact NotOwned.au))).mono (fun e w3 h => ⟨h.1, hw2.ext h.2⟩))))
    apply oy; rfl; rfl; rfl; apply Pev.not; rfl; exact fun h => h
    apply oop; rfl; apply Pev.pick_and; rfl; exact yes; rfl; exact fun h => h
    apply OL.nx
    have hfl : ∀ r, nextC ltS l (impS l ll) f hd t s = r → (l.take (i + 1)).flatMap (nextC ltS l (impS l ll) f hd t) = (l.take i).flatMap (nextC ltS l (impS l ll) f hd t) ++ r := fun r hr => by
      rw [List.take_add_one, hs, List.flatMap_append]
      simp [hr]
    have hcnd : (ltS hd s ∧ s ∈ impS l ll (lastOf hd t) ∧ s ∉ hd :: t) ↔ ((decide (ltS hd s) && hasB (impS l ll (lastOf hd t)) s) && !hasB wy s) = true := by
      rw [hwy, ← hasB_iff (l := impS l ll (lastOf hd t)), ← hasB_iff (l := wy)]
      simp [and_assoc]
    (refine W.cnd (fun hok => ?_) (fun hok => ?_)) <;> (try (exfalso; first | omega | exact hok trivial | contradiction))
    · have hok := hcnd.2 (by simpa using hok)
      have hnx := nextC_yes (names := l) (f := f) hok
      have hway2 := hway.snoc hok.2.1 hok.1 hok.2.2 hsl
      apply W.reg
      apply omv; rfl; rfl
      apply omv; rfl; rfl
      apply omv; rfl; rfl
      apply OL.buildSlice; rfl; rfl; rfl; exact Elems.au; rfl; rfl; (intro bk hbk; simp only [AllLe, and_true] at hbk)
      apply omv; rfl; rfl
      refine OL.cls (fun w' hw' => hw'.blk_row (base := w.heap.size) (m := 0) (sz := 1) (by omega) rfl (by decide)) ?_
      (apply OL.appendK (news := strs wy)); rfl; rfl; rfl; rfl; (exact Hole.au); (exact fun w2 hw2 => hwk hw2 (by exact mau) (fun k hk => by exact NotOwned.au)); (rw [strs_len, Nat.mul_one]); (exact strs_oneL _); (exact ⟨w, .head _, Nat.le_refl _⟩); (omega); (intro Oa qa ca)
      simp only [Nat.zero_add, List.nil_append]
      apply omv; rfl; rfl
      apply OL.buildSlice; rfl; rfl; rfl; exact Elems.au; rfl; rfl; (intro bk hbk; simp only [AllLe, and_true] at hbk)
      apply OL.append; rfl; rfl; rfl; rfl; exact Hole.au; exact .head _; exact Take.au; rfl; rfl; exact ⟨_, .head _, Nat.le_refl _⟩; omega; intro O1 g1 cap1
      refine OL.callE (α := CS × World) (fun z => .slice z.1.q z.1.L.length z.1.cap) (fun z => z.1.L.map Prod.fst = cyclesR ltS l (impS l ll) f (hd :: (t ++ [s])) ∧ w.heap.size ≤ z.2.heap.size) (fun z => Cls [row z.2.heap.size z.1.O z.1.q z.1.L.length z.1.cap 22 1 (cat strR.c z.1.L), pool strR z.2.heap.size z.1.O2 z.1.L, row w.heap.size O q1 L.length cq 22 1 (cat strR.c L), pool strR w.heap.size O2 L] [w]) rfl rfl (by exact Args.au) (fun w2 hw2 => ?_) ?_
      · have hk1 := hw2.toExt (s := w) (by exact mau) (fun k hk => by exact NotOwned.au)
        have hrow := SlAt.of_row (hw2.item (i := row w.heap.size O1 (some ⟨g1, 0, none⟩) (wy.length + 1) cap1 9 1 (strs wy ++ [.string s])) (by exact mau))
        have e3 : (hd :: (t ++ [s])).length = wy.length + 1 := by simp; omega
        have e4 : strs wy ++ [Value.string s] = strs (hd :: (t ++ [s])) := by rw [← hwy]; simp [strs]
        rw [e4] at hrow
        have := ih hd (t ++ [s]) (some ⟨g1, 0, none⟩) cap1 w2 (by omega) hway2 (by simp; omega) (hx.trans hk1) hrow
        rw [e3] at this
        refine this.mono ?_
        rintro e w3 ⟨qr, cr, Or, O2r, Lr, h1, h2, h3⟩
        refine ⟨(⟨0, Or, qr, cr, O2r, Lr⟩, w2), h1, ⟨h2, hk1.size⟩, ?_⟩
        have h4 := hw2.over h3 (fun i hi k hk => by
          simp only [List.mem_cons, List.not_mem_nil, or_false] at hi
          rcases hi with rfl | rfl
          · exact hk.1
          · exact hk.1)
        exact h4.thin (.keep (.keep (.any (fun k hk => by rw [show k = bk from hk]; exact ⟨hbk, trivial⟩) (.any (fun k hk => ⟨hk.1, trivial⟩) .same))))
      rintro ⟨⟨_, Or, qr, cr, O2r, Lr⟩, z⟩ ⟨hLr, hwz⟩
      simp only at hLr hwz ⊢
      have hrl : Lr.length ≤ 16807 := by
        have h1 := congrArg List.length hLr
        rw [List.length_map] at h1
        rw [h1]
        exact Nat.le_trans (cyc_len h6 f _) h7
      skip
      (apply OL.appendK (news := cat strR.c Lr)); rfl; rfl; rfl; rfl; (exact Hole.au); (exact fun w2 hw2 => SlAt.of_row (hw2.item (.head _))); (exact cat_length (sz := 1) (fun (p : List ByteArray × (Option Addr × Nat)) => (rfl : (strR.c p).length = 1)) Lr); (exact cat_oneL (fun _ => rfl) Lr); (exact ⟨w, .head _, Nat.le_refl _⟩); (omega); (intro Oz qz cz)
      apply oas; rfl; rfl
      apply OL.nil
      with_reducible apply At.in_normal
      with_reducible apply At.next
      apply W.reg
      apply obn; rfl; rfl; rfl; apply Bin.add_in; omega
      apply omv; rfl; rfl
      apply OL.nil
      rw [← cat_append]
      refine At.again ⟨i + 1, Oz, qz, cz, fun k => O2 k ∨ (z.heap.size ≤ k ∧ O2r k), L ++ Lr⟩ ⟨(show i + 1 ≤ l.length by omega), ?_⟩ (by simp only; omega) (by simp only [List.length_append]; exact Sub.au) (fun w' hw' => ?_)
      · simp only
        rw [List.map_append, hL, hLr, hfl _ hnx, List.append_assoc]
        rfl
      · simp only [List.length_append]
        have h1 := hw'.thin (.any (fun k hk => ⟨Nat.le_trans hwz hk.1, trivial⟩) .same)
        have h2 := h1.perm (List.Perm.cons _ (List.Perm.swap _ _ _))
        exact (h2.pool_app hwz).flip
    · have hok : ¬ (ltS hd s ∧ s ∈ impS l ll (lastOf hd t) ∧ s ∉ hd :: t) := fun k => by
        have h9 := hcnd.1 k
        rw [Bool.and_eq_true, Bool.and_eq_true, decide_eq_true_eq, Bool.not_eq_true'] at h9
        rcases hok with (h | h) | h
        · exact h h9.1.1
        · rw [h] at h9
          exact absurd h9.1.2 (by decide)
        · rw [h] at h9
          exact absurd h9.2 (by decide)
      have hnx := nextC_no (names := l) (f := f) hok
      apply W.skip
      with_reducible apply At.in_normal
      with_reducible apply At.next
      apply W.reg
      apply obn; rfl; rfl; rfl; apply Bin.add_in; omega
      apply omv; rfl; rfl
      apply OL.nil
      refine At.again ⟨i + 1, O, q1, cq, O2, L⟩ ⟨(show i + 1 ≤ l.length by omega), ?_⟩ (by simp only; omega) (by exact Sub.au) (fun w' hw' => hw')
      simp only
      rw [hL, hfl _ hnx, List.append_nil]
  · obtain rfl : i = l.length := by omega
    rw [List.take_length] at hL
    refine W.xt ?_
    with_reducible apply At.next
    apply W.sr
    apply omv; rfl; rfl
    apply oas; rfl; rfl
    apply OL.nx
    apply W.ret
    ((with_reducible apply At.fin1); rfl; rfl; intro w' hw')
    exact ⟨q1, cq, O, O2, L, rfl, by rw [hL, ← hwy]; rfl, hw'⟩
end Go.Proofs.Ytgllgllbgojhfaa.mo

/- The walk of the reference's BestCycle. Conditions: none. -/
namespace Go.Proofs.Ytgllgllbgojhfaa.mo
open Go.RowKit Go.Eng Go.Mo Go.Mc
set_option maxRecDepth 100000
structure BS where
  i : Nat
  r : Option (List ByteArray)
  q : Option Addr
  cap : Nat
  z : World
theorem Best_calls (q q' : Option Addr) (cap cap' : Nat) (l : List ByteArray) (ll : List (List ByteArray)) (w : World) (hc : chk l ll = 0) (h6 : l.length ≤ 6) (hsm : ∀ m ∈ ll, m.length ≤ 1048576) (hcap : l.length ≤ cap) (h : SlAt w w.heap.size q (strs l)) (h' : StrRows w w.heap.size q' ll) :
    Calls Try.prog 12 #[.slice q l.length cap, .slice q' ll.length cap'] w fun e w' => ∃ qr cr, e = .returned (.slice qr (lenR (bestP l ll)) cr) ∧ Ext w w' ∧ okR w' qr (bestP l ll) := by
  obtain ⟨hl16, hll⟩ := chk_len hc
  refine enter Try.func12 rfl Try.ntmps12 rfl (Cls.start w) ?_
  (simp only [argEnv, Nat.zero_add, Nat.reduceAdd])
  apply W.sr
  apply oas; rfl; rfl
  apply OL.nsr
  apply oas; rfl; rfl
  apply OL.nx
  apply W.seq
  apply W.sr
  apply omv; rfl; rfl
  apply oop; rfl; apply Pev.len_slice; rfl; exact yes; rfl
  apply omv; rfl; rfl
  apply OL.nx
  apply W.block
  refine W.loop (G := BS) (fun g => g.i ≤ l.length ∧ g.r = ((l.take g.i).flatMap fun s => cyclesR ltS l (impS l ll) 6 [s]).foldl (stepB btS) none ∧ okR g.z g.q g.r ∧ w.heap.size ≤ g.z.heap.size ∧ (lenR g.r ≤ 100)) (fun g => l.length - g.i)
    (fun g => [(12, true, .int .i64 (g.i : Int)), (11, true, .int .i64 (l.length : Int)), (10, true, .slice q l.length cap), (5, true, .slice g.q (lenR g.r) g.cap), (0, true, .slice q l.length cap), (1, true, .slice q' ll.length cap')])
    (fun g => Cls [] [g.z, w]) ⟨0, none, none, 0, w⟩ ⟨Nat.zero_le _, rfl, rfl, Nat.le_refl _, Nat.zero_le _⟩ (by exact Sub.au) (fun w' hw' => hw'.forget (by simp)) ?_
  rintro ⟨i, r, qb, cb, z⟩ ⟨hi, hr, hok, hwz, hrl⟩
  simp only at hi hr hok hwz hrl ⊢
  apply W.sr
  apply obn; rfl; rfl; rfl; apply Bin.lss
  apply OL.nx
  apply W.seq
  (refine W.cnd (fun hil => ?_) (fun hil => ?_)) <;> (try (exfalso; first | omega | exact hil trivial | contradiction))
  · obtain ⟨an, s, rfl, hanb, hs, hcs⟩ := str_at h (show i < l.length by omega)
    have hsl : s ∈ l := List.mem_of_getElem? hs
    apply W.sk
    apply W.sb
    apply W.sr
    apply oop; rfl; apply Pev.idx; rfl; exact yes; rfl; exact yes; rfl; rfl; intro hcond; omega
    apply oop; rfl; apply Pev.load_kept; rfl; exact yes; exact .tail _ (.head _); rfl; intro hcond; assumption; intro hcond; (rw [add_block]; assumption); intro hcond; exact NotOwned.au
    apply oas; rfl; rfl
    apply OL.nsr
    apply omv; rfl; rfl
    apply omv; rfl; rfl
    apply omv; rfl; rfl
    apply OL.buildSlice; rfl; rfl; rfl; exact Elems.au; rfl; rfl; (intro bk hbk; simp only [AllLe, and_true] at hbk)
    refine OL.callE (α := (List (List ByteArray × (Option Addr × Nat)) × Option Addr × Nat) × World) (fun u => .slice u.1.2.1 u.1.1.length u.1.2.2) (fun u => u.1.1.map Prod.fst = cyclesR ltS l (impS l ll) 6 [s] ∧ Arr strR u.2 (low u.2) u.1.1 u.1.2.1 ∧ okR u.2 qb r ∧ w.heap.size ≤ u.2.heap.size) (fun u => Cls [] [u.2, w]) rfl rfl (by exact Args.au) (fun w2 hw2 => ?_) ?_
    · have hk1 := hw2.toExt (s := w) (by exact mau) (fun k hk => by exact NotOwned.au)
      have hk2 := hw2.toExt (s := z) (by exact mau) (fun k hk => by exact NotOwned.au)
      have hi1 := hw2.item (i := blk bk 9 [.string s]) (by exact mau)
      refine (Cycles_calls (some an) q' cap cap' l ll w hc h6 hsm hcap h h' 6 s [] (some ⟨bk, 0, none⟩) 1 w2 (by decide) (Way.one hsl) (by simp; omega) hk1 (SlAt.of_blk (o := 0) hi1 (fun j v hj => by rw [Nat.zero_add]; exact hj))).mono ?_
      rintro e w3 ⟨qr, cr, Or, O2r, Lr, h1, h2, h3⟩
      have hx3 : Ext w2 w3 := h3.toExt (s := w2) (.head _) (fun k hk => NotOwned.row hk (NotOwned.pool hk .nil))
      refine ⟨((Lr, qr, cr), w3), h1, ⟨h2, h3.arr (.head _) (.tail _ (.head _)), (hok.ext hk2).ext hx3, Nat.le_trans hk1.size hx3.size⟩, ?_⟩
      exact (((hw2.thin (.any (fun k hk => by rw [show k = bk from hk]; exact ⟨hbk.1, hbk.2, trivial⟩) Thin.nil)).forget (by simp)).ext hx3).note
    rintro ⟨⟨Lr, qr, cr⟩, z3⟩ ⟨hLr, hA, hok, hwz3⟩
    simp only at hLr hA hok hwz3 ⊢
    have hlr : Lr.length ≤ 117649 := by
      have h1 := congrArg List.length hLr
      rw [List.length_map] at h1
      rw [h1]
      exact Nat.le_trans (cyc_len h6 6 _) (by decide)
    apply oop; rfl; apply Pev.len_slice; rfl; exact yes; rfl
    apply omv; rfl; rfl
    apply OL.nx
    apply W.block
    refine W.loop (G := BS) (fun g => g.i ≤ Lr.length ∧ g.r = ((Lr.take g.i).map Prod.fst).foldl (stepB btS) r ∧ okR z3 g.q g.r ∧ (lenR g.r ≤ 100)) (fun g => Lr.length - g.i)
      (fun g => [(22, true, .int .i64 (g.i : Int)), (21, true, .int .i64 (Lr.length : Int)), (20, true, .slice qr Lr.length cr), (12, true, .int .i64 (i : Int)), (11, true, .int .i64 (l.length : Int)), (10, true, .slice (some an) l.length cap), (5, true, .slice g.q (lenR g.r) g.cap), (0, true, .slice (some an) l.length cap), (1, true, .slice q' ll.length cap')])
      (fun g => Cls [] [z3, w]) ⟨0, r, qb, cb, w⟩ ⟨Nat.zero_le _, rfl, hok, hrl⟩ (by exact Sub.au) (fun w' hw' => hw') ?_
    rintro ⟨j, r1, q1, c1, _⟩ ⟨hj, hr1, hok1, hrl1⟩
    simp only at hj hr1 hok1 hrl1 ⊢
    apply W.sr
    apply obn; rfl; rfl; rfl; apply Bin.lss
    apply OL.nx
    apply W.seq
    (refine W.cnd (fun hjl => ?_) (fun hjl => ?_)) <;> (try (exfalso; first | omega | exact hjl trivial | contradiction))
    · obtain ⟨ae, p, rfl, hae, hp, hcell, hpok⟩ := hA.get (show j < Lr.length by omega)
      have hae : ae.block < z3.heap.size := hae
      have hcell : CellsAt z3 (ae.add (j * 1)) [.slice p.2.1 p.1.length p.2.2] := hcell
      have hcell : z3.cell? (ae.add (j * 1)) = some (.slice p.2.1 p.1.length p.2.2) := by
        have := hcell 0 _ rfl
        rwa [add_zero_] at this
      have hpl := hpok.len
      have hp0 := hpok.pos
      obtain ⟨ap, hap, hapb, hapc⟩ := hpok.at_ hp0
      rw [hap] at hcell
      have hapb : ap.block < z3.heap.size := hapb
      have hfo : ((Lr.take (j + 1)).map Prod.fst).foldl (stepB btS) r = stepB btS r1 p.1 := by
        rw [List.take_add_one, hp, hr1]
        simp
      have hsp : SlAt z3 z3.heap.size (some ap) (strs p.1) := fun _ => ⟨ap, rfl, hapb, hapc⟩
      cases r1 with
      | none =>
        have hq1 : q1 = none := hok1
        subst hq1
        apply W.sk
        apply W.sb
        apply W.sr
        apply oop; rfl; apply Pev.idx; rfl; exact yes; rfl; exact yes; rfl; rfl; intro hcond; omega
        apply oop; rfl; apply Pev.load_kept; rfl; exact yes; exact .head _; rfl; intro hcond; assumption; intro hcond; (rw [add_block]; assumption); intro hcond; exact NotOwned.au
        apply oas; rfl; rfl
        apply OL.nsr
        apply omv; rfl; rfl
        apply obn; rfl; rfl; rfl; apply Bin.slice_nil; rfl
        apply omv; rfl; rfl
        apply ono; rfl; rfl; rfl; apply Pev.move; rfl; exact yes
        apply ono; rfl; rfl; rfl; apply Pev.len_slice; rfl; exact fun h => h; rfl
        apply ono; rfl; rfl; rfl; apply Pev.move; rfl; exact yes
        apply ono; rfl; rfl; rfl; apply Pev.len_slice; rfl; exact fun h => h; rfl
        apply ono; rfl; rfl; rfl; apply Pev.bin; rfl; exact fun h => h; rfl; exact fun h => h; intro hcond; apply Bin.lss
        apply oop; rfl; apply Pev.pick_or; rfl; exact yes; rfl; exact fun h => h
        apply omv; rfl; rfl
        apply ono; rfl; rfl; rfl; apply Pev.move; rfl; exact yes
        apply ono; rfl; rfl; rfl; apply Pev.len_slice; rfl; exact fun h => h; rfl
        apply ono; rfl; rfl; rfl; apply Pev.move; rfl; exact yes
        apply ono; rfl; rfl; rfl; apply Pev.len_slice; rfl; exact fun h => h; rfl
        apply ono; rfl; rfl; rfl; apply Pev.bin; rfl; exact fun h => h; rfl; exact fun h => h; intro hcond; apply Bin.eql
        apply ono; rfl; rfl; rfl; apply Pev.move; rfl; exact fun h => h
        apply OL.op; exact Guard.cyes rfl rfl; rfl; rfl; apply Pev.move; rfl; exact yes
        apply OL.op; exact Guard.cyes rfl rfl; rfl; rfl; apply Pev.move; rfl; exact yes
        apply OL.gateOff; exact Guard.cyes rfl rfl; rfl; rfl
        apply OL.gateOff; exact Guard.no rfl rfl; rfl; rfl
        apply oop; rfl; apply Pev.pick_on; rfl; exact yes; (intro hcond; rfl); rfl; exact yes
        apply OL.nx
        refine W.cond rfl (fun _ => ?_) (fun hb => by simp at hb)
        apply W.reg
        apply omv; rfl; rfl
        apply oas; rfl; rfl
        apply OL.nil
        with_reducible apply At.in_normal
        with_reducible apply At.next
        apply W.reg
        apply obn; rfl; rfl; rfl; apply Bin.add_in; omega
        apply omv; rfl; rfl
        apply OL.nil
        exact At.again ⟨j + 1, some p.1, some ap, p.2.2, w⟩ ⟨(show j + 1 ≤ Lr.length by omega), hfo.symm, ⟨⟨ap, rfl⟩, hsp⟩, hpl⟩ (by simp only; omega) (by exact Sub.au) (fun w' hw' => hw')
      | some b =>
        obtain ⟨⟨a1, rfl⟩, hb1⟩ := hok1
        have hbl : b.length ≤ 100 := hrl1
        simp only [show lenR (some b) = b.length from rfl]
        apply W.sk
        apply W.sb
        apply W.sr
        apply oop; rfl; apply Pev.idx; rfl; exact yes; rfl; exact yes; rfl; rfl; intro hcond; omega
        apply oop; rfl; apply Pev.load_kept; rfl; exact yes; exact .head _; rfl; intro hcond; assumption; intro hcond; (rw [add_block]; assumption); intro hcond; exact NotOwned.au
        apply oas; rfl; rfl
        apply OL.nsr
        apply omv; rfl; rfl
        apply obn; rfl; rfl; rfl; apply Bin.slice_nil; rfl
        apply omv; rfl; rfl
        apply ono; rfl; rfl; rfl; apply Pev.move; rfl; exact yes
        apply ono; rfl; rfl; rfl; apply Pev.len_slice; rfl; exact yes; rfl
        apply ono; rfl; rfl; rfl; apply Pev.move; rfl; exact yes
        apply ono; rfl; rfl; rfl; apply Pev.len_slice; rfl; exact yes; rfl
        apply ono; rfl; rfl; rfl; apply Pev.bin; rfl; exact yes; rfl; exact yes; intro hcond; apply Bin.lss
        apply oop; rfl; apply Pev.pick_or; rfl; exact yes; rfl; exact yes
        apply omv; rfl; rfl
        apply ono; rfl; rfl; rfl; apply Pev.move; rfl; exact yes
        apply ono; rfl; rfl; rfl; apply Pev.len_slice; rfl; exact fun h => h; rfl
        apply ono; rfl; rfl; rfl; apply Pev.move; rfl; exact yes
        apply ono; rfl; rfl; rfl; apply Pev.len_slice; rfl; exact fun h => h; rfl
        apply ono; rfl; rfl; rfl; apply Pev.bin; rfl; exact fun h => h; rfl; exact fun h => h; intro hcond; apply Bin.eql
        apply ono; rfl; rfl; rfl; apply Pev.move; rfl; exact fun h => h
        apply OL.op; exact Guard.cyes rfl rfl; rfl; rfl; apply Pev.move; rfl; exact yes
        apply OL.op; exact Guard.cyes rfl rfl; rfl; rfl; apply Pev.move; rfl; exact yes
        (((first | (with_reducible apply OL.op) | (with_reducible apply QL.op)); (exact Guard.au); rfl; rfl); (exact Pev.call (v := .bool (lessB p.1 b)) rfl (by exact Args.au) (fun hcd w2 hw2 => (less_calls (some ap) (some a1) p.2.2 c1 p.1 b w2 hpl (by simp at hcd; omega) (hsp.keep (hw2.below (s := z3) (by exact mau) (Nat.le_refl _) (fun k hk => by exact NotOwned.au)) (hw2.kp z3 (by exact mau)).size) (hb1.keep (hw2.below (s := z3) (by exact mau) (Nat.le_refl _) (fun k hk => by exact NotOwned.au)) (hw2.kp z3 (by exact mau)).size)).mono (fun e w3 h => ⟨h.1, hw2.ext h.2⟩))))
        apply ono; rfl; rfl; rfl; apply Pev.pick_and; rfl; exact fun h => h; rfl; exact fun h => h
        apply oop; rfl; apply Pev.pick_or; rfl; exact yes; rfl; exact fun h => h
        apply OL.nx
        have hbt : ((some a1).isNone || decide ((p.1.length : Int) < (b.length : Int)) || decide ((p.1.length : Int) = (b.length : Int)) && lessB p.1 b) = btS p.1 b := by
          unfold btS
          rw [show decide ((p.1.length : Int) < (b.length : Int)) = decide (p.1.length < b.length) from decide_eq_decide.2 (by omega), show decide ((p.1.length : Int) = (b.length : Int)) = decide (p.1.length = b.length) from decide_eq_decide.2 (by omega)]
          rfl
        refine W.cond rfl (fun hb => ?_) (fun hb => ?_)
        · have hb2 : btS p.1 b = true := hbt.symm.trans hb
          have hfo2 : stepB btS (some b) p.1 = some p.1 := by show some (if btS p.1 b then p.1 else b) = _; rw [if_pos hb2]
          rw [hfo2] at hfo
          apply W.reg
          apply omv; rfl; rfl
          apply oas; rfl; rfl
          apply OL.nil
          with_reducible apply At.in_normal
          with_reducible apply At.next
          apply W.reg
          apply obn; rfl; rfl; rfl; apply Bin.add_in; omega
          apply omv; rfl; rfl
          apply OL.nil
          exact At.again ⟨j + 1, some p.1, some ap, p.2.2, w⟩ ⟨(show j + 1 ≤ Lr.length by omega), hfo.symm, ⟨⟨ap, rfl⟩, hsp⟩, hpl⟩ (by simp only; omega) (by exact Sub.au) (fun w' hw' => hw')
        · have hb2 : ¬ btS p.1 b = true := fun h => by
            rw [← hbt] at h
            exact absurd (h.symm.trans hb) (by decide)
          have hfo2 : stepB btS (some b) p.1 = some b := by show some (if btS p.1 b then p.1 else b) = _; rw [if_neg hb2]
          rw [hfo2] at hfo
          apply W.skip
          with_reducible apply At.in_normal
          with_reducible apply At.next
          apply W.reg
          apply obn; rfl; rfl; rfl; apply Bin.add_in; omega
          apply omv; rfl; rfl
          apply OL.nil
          exact At.again ⟨j + 1, some b, some a1, c1, w⟩ ⟨(show j + 1 ≤ Lr.length by omega), hfo.symm, ⟨⟨a1, rfl⟩, hb1⟩, hbl⟩ (by simp only; omega) (by exact Sub.au) (fun w' hw' => hw')
    · obtain rfl : j = Lr.length := by omega
      rw [List.take_length] at hr1
      refine W.xt ?_
      with_reducible apply At.in_normal
      with_reducible apply At.next
      apply W.reg
      apply obn; rfl; rfl; rfl; apply Bin.add_in; omega
      apply omv; rfl; rfl
      apply OL.nil
      refine At.again ⟨i + 1, r1, q1, c1, z3⟩ ⟨(show i + 1 ≤ l.length by omega), ?_, hok1, hwz3, hrl1⟩ (by simp only; omega) (by exact Sub.au) (fun w' hw' => hw')
      simp only
      rw [hr1, hLr, hr, List.take_add_one, hs, List.flatMap_append, List.foldl_append]
      simp
  · obtain rfl : i = l.length := by omega
    rw [List.take_length] at hr
    refine W.xt ?_
    with_reducible apply At.next
    apply W.sr
    apply omv; rfl; rfl
    apply oas; rfl; rfl
    apply OL.nx
    apply W.ret
    ((with_reducible apply At.fin1); rfl; rfl; intro w' hw')
    have hb : bestP l ll = r := by rw [hr]; rfl
    rw [hb]
    exact ⟨qb, cb, rfl, by (exact hw'.fr), hok.at hw' (by exact mau) (fun k hk => NotOwned.nil)⟩
end Go.Proofs.Ytgllgllbgojhfaa.mo

/- The walk of the law ModulesCycles. Conditions: none. -/
namespace Go.Proofs.Ytgllgllbgojhfaa.mo
open Go.RowKit Go.Eng Go.Mo Go.Mc
set_option maxRecDepth 100000
def sA1 : ByteArray := ⟨#[65]⟩
theorem one_best : (bestP [sA1] [[sA1]]).map List.length = some 1 := by decide +kernel
theorem one_cyc : ∃ c, cycE [sA1] [[sA1]] = (some c, 0) ∧ c.length = 1 := by
  have hc : chk [sA1] [[sA1]] = 0 := by kernel_rfl
  have h1 := cyc_eq hc (by decide)
  unfold cycE
  rw [if_neg (by simpa using hc), h1]
  cases h : bestP [sA1] [[sA1]] with
  | none =>
    have := one_best
    rw [h] at this
    cases this
  | some c =>
    have := one_best
    rw [h] at this
    exact ⟨c, rfl, by simpa using this⟩
theorem okR.sl {w : World} {q : Option Addr} : ∀ {r : Option (List ByteArray)}, okR w q r → SlAt w w.heap.size q (strs (r.getD []))
  | none, _ => SlAt.nil
  | some c, h => h.2
theorem law_calls (q q' : Option Addr) (cap cap' : Nat) (l : List ByteArray) (ll : List (List ByteArray)) (w : World) (hlen : l.length ≤ 9223372036854775807) (hcap : l.length ≤ cap) (h : SlAt w w.heap.size q (strs l))
    (hlen' : ll.length ≤ 9223372036854775807) (hsm : ∀ m ∈ ll, m.length ≤ 1048576) (h' : StrRows w w.heap.size q' ll) :
    Calls Try.prog 4 #[.slice q l.length cap, .slice q' ll.length cap'] w fun e w' => e = .returned (.bool true) ∧ Ext w w' := by
  refine enter Try.func4 rfl Try.ntmps4 rfl (Cls.start w) ?_
  (simp only [argEnv, Nat.zero_add, Nat.reduceAdd])
  apply W.sr
  apply oas; rfl; rfl
  apply OL.nx
  apply W.seq
  apply W.sr
  apply OL.buildSlice; rfl; rfl; rfl; exact Elems.au; rfl; rfl; (intro bk hbk; simp only [AllLe, and_true] at hbk)
  apply OL.buildSlice; rfl; rfl; rfl; exact Elems.au; rfl; rfl; (intro bk hbk; simp only [AllLe, and_true] at hbk)
  apply OL.buildSlice; rfl; rfl; rfl; exact Elems.au; rfl; rfl; (intro bk hbk; simp only [AllLe, and_true] at hbk)
  rename_i b1 hb1 b2 hb2
  obtain ⟨c1, hc1, hcl1⟩ := one_cyc
  refine OL.callE (α := Option Addr × Nat) (fun x => .tuple #[.slice x.1 1 x.2, .int .i64 0]) (fun _ => True) (fun _ => Cls [] [w]) rfl rfl (by exact Args.au) (fun w2 hw2 => ?_) ?_
  · have i1 := hw2.item (i := blk b1 9 [.string sA1]) (by exact mau)
    have i2 := hw2.item (i := blk b2 9 [.string sA1]) (by exact mau)
    have i3 := hw2.item (i := blk bk 22 [.slice (some ⟨b2, 0, none⟩) 1 1]) (by exact mau)
    have hs1 : SlAt w2 w2.heap.size (some ⟨b1, 0, none⟩) (strs [sA1]) := SlAt.of_blk (o := 0) i1 (fun j v hj => by rw [Nat.zero_add]; exact hj)
    have hs2 : SlAt w2 w2.heap.size (some ⟨b2, 0, none⟩) (strs [sA1]) := SlAt.of_blk (o := 0) i2 (fun j v hj => by rw [Nat.zero_add]; exact hj)
    have hrows : StrRows w2 w2.heap.size (some ⟨bk, 0, none⟩) [[sA1]] := ⟨fun i m hm => by
      match i, hm with
      | 0, hm =>
        cases hm
        exact ⟨_, some ⟨b2, 0, none⟩, 1, rfl, blk_lt i3, blk_cell i3, by decide, by decide, hs2⟩⟩
    refine (Cycle_calls (some ⟨b1, 0, none⟩) (some ⟨bk, 0, none⟩) 1 1 [sA1] [[sA1]] w2 (by decide) (by decide) hs1 (by decide) (fun m hm => by rw [List.mem_singleton.1 hm]; decide) hrows).mono (fun e w3 ⟨qr, cr, he, hx, hok⟩ => ?_)
    rw [hc1] at he hok
    have hl : lenR (some c1) = 1 := hcl1
    rw [hl] at he
    exact ⟨(qr, cr), he, trivial, (hw2.ext hx).thin (by exact Thin.au)⟩
  rintro ⟨qo, co⟩ _
  simp only
  apply omv; rfl; rfl
  apply oex; rfl; rfl; rfl
  apply oex; rfl; rfl; rfl
  apply oas; rfl; rfl
  apply oas; rfl; rfl
  apply OL.nsr
  apply omv; rfl; rfl
  apply obn; rfl; rfl; rfl; apply Bin.neq
  apply omv; rfl; rfl
  apply ono; rfl; rfl; rfl; apply Pev.move; rfl; exact yes
  apply ono; rfl; rfl; rfl; apply Pev.len_slice; rfl; exact yes; rfl
  apply ono; rfl; rfl; rfl; apply Pev.bin; rfl; exact yes; rfl; exact yes; intro hcond; apply Bin.neq
  apply oop; rfl; apply Pev.pick_or; rfl; exact yes; rfl; exact yes
  apply OL.nx
  refine W.cond rfl (fun hc => by simp at hc) (fun _ => ?_)
  apply W.sk
  apply W.seq
  apply W.sr
  apply omv; rfl; rfl
  apply oop; rfl; apply Pev.len_slice; rfl; exact yes; rfl
  apply obn; rfl; rfl; rfl; apply Bin.gtr
  apply OL.nx
  (refine W.cnd (fun h7 => ?_) (fun h7 => ?_)) <;> (try (exfalso; first | omega | exact h7 trivial | contradiction))
  · apply W.sr
    apply oas; rfl; rfl
    apply OL.nx
    refine W.rt ?_
    ((with_reducible apply At.fin1); rfl; rfl; intro w' hw')
    exact ⟨by simp, by (exact hw'.fr)⟩
  have h6 : l.length ≤ 6 := by omega
  obtain ⟨ce, hce⟩ : ∃ ce, cycE l ll = ce := ⟨_, rfl⟩
  apply W.sk
  apply W.sr
  apply omv; rfl; rfl
  apply omv; rfl; rfl
  refine OL.callE (α := (Option Addr × Nat) × World) (fun x => .tuple #[.slice x.1.1 (lenR ce.1) x.1.2, .int .i64 ce.2]) (fun x => okR x.2 x.1.1 ce.1) (fun x => Cls [] [x.2, w]) rfl rfl (by exact Args.au) (fun w2 hw2 => ?_) ?_
  · have h1 := hw2.below (s := w) (by exact mau) (Nat.le_refl _) (fun k hk => by exact NotOwned.au)
    have h2 := (hw2.kp w (by exact mau)).size
    have := Cycle_calls q q' cap cap' l ll w2 hlen hcap (h.keep h1 h2) hlen' hsm (h'.keep h1 h2)
    rw [hce] at this
    exact this.mono (fun e w3 ⟨qr, cr, he, hx, hok⟩ => ⟨((qr, cr), w3), he, hok, (hw2.ext hx).note⟩)
  rintro ⟨⟨qy, cy⟩, w2⟩ hok2
  simp only at hok2 ⊢
  have hll2 : lenR ce.1 ≤ 100 := by
    have : ∀ r : Option (List ByteArray), (∀ c, r = some c → c.length ≤ l.length) → lenR r ≤ 100 := fun r hr => by
      cases r with
      | none => exact Nat.zero_le _
      | some c => exact Nat.le_trans (hr c rfl) (by omega)
    refine this _ fun c hcc => ?_
    rw [← hce] at hcc
    unfold cycE at hcc
    split at hcc
    · cases hcc
    · rename_i hck
      have hck : chk l ll = 0 := by simpa using hck
      have hb := ref_best (names := l) (imp := impS l ll) ltS_tot btS_iff 6 h6
      have he := cyc_eq hck h6
      unfold bestP at he
      rw [← he] at hb
      cases hx : cycP l ll with
      | none => rw [hx] at hcc; cases hcc
      | some d =>
        rw [hx] at hcc hb
        obtain rfl := Option.some.inj hcc
        exact hb.1.len.2
  apply omv; rfl; rfl
  apply oex; rfl; rfl; rfl
  apply oex; rfl; rfl; rfl
  apply oas; rfl; rfl
  apply oas; rfl; rfl
  apply OL.nsr
  apply omv; rfl; rfl
  apply omv; rfl; rfl
  (((first | (with_reducible apply OL.op) | (with_reducible apply QL.op)); (exact Guard.au); rfl; rfl); (exact Pev.call (v := .int .i64 (chk l ll)) rfl (by exact Args.au) (fun _ w3 hw3 => (Err_calls q q' cap cap' l ll w3 hlen hcap (h.keep (hw3.below (s := w) (by exact mau) (Nat.le_refl _) (fun k hk => by exact NotOwned.au)) (hw3.kp w (by exact mau)).size) hlen' (h'.keep (hw3.below (s := w) (by exact mau) (Nat.le_refl _) (fun k hk => by exact NotOwned.au)) (hw3.kp w (by exact mau)).size)).mono (fun e w4 h => ⟨by rw [chk_err]; exact h.1, hw3.ext h.2⟩))))
  apply oas; rfl; rfl
  apply OL.nsr
  apply oas; rfl; rfl
  apply OL.nx
  apply W.seq
  apply W.sr
  apply omv; rfl; rfl
  apply obn; rfl; rfl; rfl; apply Bin.eql
  apply OL.nx
  refine W.cond rfl (fun hb => ?_) (fun hb => ?_)
  · have h0 : chk l ll = 0 := by simpa using hb
    have hce2 : ce.1 = bestP l ll ∧ ce.2 = if (bestP l ll).isNone then 12 else 0 := by
      rw [← hce, ← cyc_eq h0 h6]
      unfold cycE
      rw [if_neg (by simpa using h0)]
      cases cycP l ll <;> exact ⟨rfl, rfl⟩
    obtain ⟨r, hr⟩ : ∃ r, bestP l ll = r := ⟨_, rfl⟩
    rw [hr] at hce2
    apply W.sr
    apply omv; rfl; rfl
    apply omv; rfl; rfl
    refine OL.callE (α := (Option Addr × Nat) × World) (fun x => .slice x.1.1 (lenR r) x.1.2) (fun x => okR x.2 x.1.1 r) (fun x => Cls [] [x.2, w2, w]) rfl rfl (by exact Args.au) (fun w3 hw3 => ?_) ?_
    · have h1 := hw3.below (s := w) (by exact mau) (Nat.le_refl _) (fun k hk => by exact NotOwned.au)
      have h2 := (hw3.kp w (by exact mau)).size
      have := Best_calls q q' cap cap' l ll w3 h0 h6 hsm hcap (h.keep h1 h2) (h'.keep h1 h2)
      rw [hr] at this
      exact this.mono (fun e w4 ⟨qr, cr, he, hx, hok⟩ => ⟨((qr, cr), w4), he, hok, (hw3.ext hx).note⟩)
    rintro ⟨⟨qz, cz⟩, w3⟩ hok3
    simp only at hok3 ⊢
    cases r with
    | none =>
      have hqz : qz = none := hok3
      subst hqz
      have e1 : ce.1 = none := hce2.1
      have e2 : ce.2 = 12 := hce2.2
      rw [e1] at hok2
      rw [e1, e2]
      apply oas; rfl; rfl
      apply OL.nsr
      apply omv; rfl; rfl
      apply obn; rfl; rfl; rfl; apply Bin.slice_nil; rfl
      apply OL.nx
      refine W.cond rfl (fun _ => ?_) (fun hb => by simp at hb)
      apply W.reg
      apply oas; rfl; rfl
      apply OL.nsr
      apply omv; rfl; rfl
      apply omv; rfl; rfl
      apply obn; rfl; rfl; rfl; apply Bin.eql
      apply omv; rfl; rfl
      apply oy; rfl; rfl; rfl; apply Pev.move; rfl; exact yes
      apply oy; rfl; rfl; rfl; apply Pev.move; rfl; exact yes
      (((first | (with_reducible apply OL.op) | (with_reducible apply QL.op)); (exact Guard.au); rfl; rfl); (exact Pev.call (v := .bool true) rfl (by exact Args.au) (fun _ w4 hw4 => (SEqual_calls qy none cy cz [] [] w4 (by decide) (by decide) SlAt.nil SlAt.nil).mono (fun e w5 h => ⟨h.1, hw4.ext h.2⟩))))
      apply oop; rfl; apply Pev.pick_and; rfl; exact yes; rfl; exact yes
      apply oas; rfl; rfl
      apply OL.nx
      apply W.ret
      ((with_reducible apply At.fin1); rfl; rfl; intro w' hw')
      exact ⟨by simp, by (exact hw'.fr)⟩
    | some c =>
      have e1 : ce.1 = some c := hce2.1
      have e2 : ce.2 = 0 := hce2.2
      rw [e1] at hok2 hll2
      rw [e1, e2]
      obtain ⟨⟨a3, rfl⟩, hsc⟩ := hok3
      apply oas; rfl; rfl
      apply OL.nsr
      apply omv; rfl; rfl
      apply obn; rfl; rfl; rfl; apply Bin.slice_nil; rfl
      apply OL.nx
      refine W.cond rfl (fun hb => by simp at hb) (fun _ => ?_)
      apply W.sk
      apply W.sr
      apply omv; rfl; rfl
      apply omv; rfl; rfl
      apply obn; rfl; rfl; rfl; apply Bin.eql
      apply omv; rfl; rfl
      apply oy; rfl; rfl; rfl; apply Pev.move; rfl; exact yes
      apply oy; rfl; rfl; rfl; apply Pev.move; rfl; exact yes
      have hcl : c.length ≤ 100 := hll2
      (((first | (with_reducible apply OL.op) | (with_reducible apply QL.op)); (exact Guard.au); rfl; rfl); (exact Pev.call (v := .bool true) rfl (by exact Args.au) (fun _ w4 hw4 => (SEqual_calls qy (some a3) cy cz c c w4 (by omega) (by omega) (SlAt.keep hok2.2 (hw4.below (s := w2) (by exact mau) (Nat.le_refl _) (fun k hk => by exact NotOwned.au)) (hw4.kp w2 (by exact mau)).size) (hsc.keep (hw4.below (s := w3) (by exact mau) (Nat.le_refl _) (fun k hk => by exact NotOwned.au)) (hw4.kp w3 (by exact mau)).size)).mono (fun e w5 h => ⟨by rw [h.1]; simp, hw4.ext h.2⟩))))
      apply oop; rfl; apply Pev.pick_and; rfl; exact yes; rfl; exact fun h => h
      apply oas; rfl; rfl
      apply OL.nx
      apply W.ret
      ((with_reducible apply At.fin1); rfl; rfl; intro w' hw')
      exact ⟨by rw [h0]; simp, by (exact hw'.fr)⟩
  · have h0 : ¬ chk l ll = 0 := by simpa using hb
    have hce2 : ce = (none, chk l ll) := by rw [← hce]; unfold cycE; rw [if_pos h0]
    have e1 : ce.1 = none := by rw [hce2]
    have e2 : ce.2 = chk l ll := by rw [hce2]
    rw [e1] at hok2
    rw [e1, e2]
    apply W.sk
    apply W.sr
    apply omv; rfl; rfl
    apply omv; rfl; rfl
    apply obn; rfl; rfl; rfl; apply Bin.eql
    apply omv; rfl; rfl
    apply oy; rfl; rfl; rfl; apply Pev.move; rfl; exact yes
    apply oy; rfl; rfl; rfl; apply Pev.move; rfl; exact yes
    (((first | (with_reducible apply OL.op) | (with_reducible apply QL.op)); (exact Guard.au); rfl; rfl); (exact Pev.call (v := .bool true) rfl (by exact Args.au) (fun _ w4 hw4 => (SEqual_calls qy none cy 0 [] [] w4 (by decide) (by decide) SlAt.nil SlAt.nil).mono (fun e w5 h => ⟨h.1, hw4.ext h.2⟩))))
    apply oop; rfl; apply Pev.pick_and; rfl; exact yes; rfl; exact fun h => h
    apply oas; rfl; rfl
    apply OL.nx
    apply W.ret
    ((with_reducible apply At.fin1); rfl; rfl; intro w' hw')
    exact ⟨by simp, by (exact hw'.fr)⟩
end Go.Proofs.Ytgllgllbgojhfaa.mo

/- What the bound of a statement's second form gives: lengths of slices that read. Conditions: none. -/
namespace Go.Proofs.Ytgllgllbgojhfaa.mo
open Go.RowKit Go.ChangeShapes Go.WideShapes Go.ChangeAt Go.Eng
theorem bulk_pos {H : Type} (d : DataW H) : 1 ≤ Rows.uptoBulk d := by
  cases d with
  | lit l => cases l <;> simp [Rows.uptoBulk]
  | nil => simp [Rows.uptoBulk]
  | ptr d => simp [Rows.uptoBulk]
  | slice elems spare => simp [Rows.uptoBulk]
  | agg parts => simp [Rows.uptoBulk]
  | iface t d => simp [Rows.uptoBulk]
  | map entries => simp [Rows.uptoBulk]
  | held h => simp [Rows.uptoBulk]
theorem bulk_mem {H : Type} {d : DataW H} : ∀ {l : List (DataW H)}, d ∈ l → Rows.uptoBulk d ≤ Rows.uptoBulkAll l
  | x :: r, h => by
    simp only [Rows.uptoBulkAll]
    rcases List.mem_cons.1 h with rfl | h
    · omega
    · have := bulk_mem h
      omega
theorem bulk_count {H : Type} : ∀ l : List (DataW H), l.length ≤ Rows.uptoBulkAll l
  | [] => Nat.zero_le _
  | x :: r => by
    have := bulk_pos x
    have := bulk_count r
    simp only [Rows.uptoBulkAll, List.length_cons]
    omega
section
variable {H : Type} {enc : TypeId × Value → H} {P : Program} {w : World} {spare : Nat → Bool} {held : Bool}
/-- a slice that reads is no longer than its bulk -/
theorem bulk_len {t e : TypeId} {fuel n cap : Nat} {q : Option Addr} {x : DataW H × List MemPlace} (ht : P.underlying t = some (.slice e)) (h : DataW.trod enc P w 0 spare held fuel t [.slice q n cap] = some x) : n ≤ Rows.uptoBulk x.1 := by
  rcases DataW.trod_slice ht h with ⟨h1, _⟩ | ⟨a, len, cap', elems, rest, m, hf, h1, rfl, _, _, _, hlen, _⟩
  · simp only [List.cons.injEq, Value.slice.injEq, and_true] at h1
    omega
  · simp only [List.cons.injEq, Value.slice.injEq, and_true] at h1
    have h2 := bulk_count (elems.map (·.1))
    rw [List.length_map] at h2
    simp only [Rows.uptoBulk]
    omega
/-- and so are its elements that are slices -/
theorem bulk_rows {t e s : TypeId} {fuel cap : Nat} {q : Option Addr} {ll : List (List ByteArray)} {B : Nat} {x : DataW H × List MemPlace} (ht : P.underlying t = some (.slice e)) (he : P.underlying e = some (.slice s)) (hse : P.cellsOf e = 1)
    (h : DataW.trod enc P w 0 spare held fuel t [.slice q ll.length cap] = some x) (hr : Go.Mo.StrRows w B q ll) : ∀ m ∈ ll, m.length ≤ Rows.uptoBulk x.1 := by
  intro m hm
  obtain ⟨i, hi⟩ := List.mem_iff_getElem?.1 hm
  have hil := (List.getElem?_eq_some_iff.1 hi).1
  obtain ⟨a, q', cap', rfl, hab, hc, _, _, _⟩ := hr.get i m hi
  rcases DataW.trod_slice ht h with ⟨h1, _⟩ | ⟨a2, len, cap2, elems, rest, n, hf, h1, rfl, _, _, _, hlen, hel, _⟩
  · simp only [List.cons.injEq, Value.slice.injEq, and_true] at h1
    cases h1.1
  · simp only [List.cons.injEq, Value.slice.injEq, Option.some.injEq, and_true] at h1
    obtain ⟨rfl, h2, _⟩ := h1
    have h3 := hel i (by omega)
    rw [List.getElem?_eq_getElem (by omega), hse] at h3
    obtain ⟨cs', hcs, ht'⟩ := Option.bind_eq_some_iff.1 h3
    obtain ⟨h4, h5⟩ := cellsAt_of hcs
    obtain ⟨v, rfl⟩ : ∃ v, cs' = [v] := by
      cases cs' with
      | nil => simp at h5
      | cons v r =>
        cases r with
        | nil => exact ⟨v, rfl⟩
        | cons _ _ => simp at h5
    have h6 := h4 0 v rfl
    rw [add_zero_, hc] at h6
    obtain rfl := Option.some.inj h6
    refine Nat.le_trans (bulk_len he ht') ?_
    refine Nat.le_trans (bulk_mem (l := elems.map (·.1)) (List.mem_map.2 ⟨_, List.getElem_mem (by omega), rfl⟩)) ?_
    simp only [Rows.uptoBulk]
    omega
end
end Go.Proofs.Ytgllgllbgojhfaa.mo

/- Readings of slices of slices of strings. General. No condition. -/
namespace Go.Eng
open Go.RowKit
section
variable {H : Type} {enc : TypeId × Value → H} {P : Program} {w : World} {spare : Nat → Bool} {held : Bool}
/-- a slice of slices of strings that reads -/
theorem strRows_of {t e s : TypeId} {fuel : Nat} {cs : List Value} {x : DataW H × List MemPlace} (ht : P.underlying t = some (.slice e)) (he : P.underlying e = some (.slice s)) (hstr : P.underlying s = some .string) (hse : P.cellsOf e = 1) (hss : P.cellsOf s = 1)
    (h : DataW.trod enc P w 0 spare held fuel t cs = some x) :
    ∃ (q : Option Addr) (ll : List (List ByteArray)) (cap : Nat), cs = [.slice q ll.length cap] ∧ ll.length ≤ cap ∧ cap ≤ maxLen ∧ Go.Mo.StrRows w w.heap.size q ll := by
  obtain ⟨q, len, cap, rfl, hle, hcap, hq0, m, hm, hel⟩ := slice_reads ht hse h
  cases q with
  | none =>
    obtain rfl := hq0 rfl
    exact ⟨none, [], cap, rfl, hle, hcap, ⟨fun i m hm => by simp at hm⟩⟩
  | some a =>
    obtain ⟨ll, hl, hr⟩ := list_of (fun i (m : List ByteArray) => ∃ q' cap', w.cell? (a.add (i * 1)) = some (.slice q' m.length cap') ∧ m.length ≤ cap' ∧ m.length ≤ 9223372036854775807 ∧ SlAt w w.heap.size q' (strs m)) len (fun i hi => by
      obtain ⟨cs', y, hc, hl1, ht'⟩ := hel a rfl i hi
      obtain ⟨q', l, cap', rfl, h1, h2, h3⟩ := strs_of he hstr hss ht'
      unfold maxLen at h2
      exact ⟨l, q', cap', hc 0 _ rfl, h1, by omega, h3⟩)
    subst hl
    refine ⟨some a, ll, cap, rfl, hle, hcap, ⟨fun i m hm => ?_⟩⟩
    obtain ⟨q', cap', h1, h2, h3, h4⟩ := hr i m hm
    refine ⟨a, q', cap', rfl, ?_, h1, h2, h3, h4⟩
    have := cell_lt h1
    rwa [add_block] at this
end
end Go.Eng
