/- slices.Equal at []int; plain: what Vars answers is what all solutions agree on. Conditions: none. -/
import Derived.Test.YtaponemcbnnebaaDoorKiL
namespace Go.Ki
open Go.Eng Go.RowKit
set_option linter.unusedVariables false
set_option linter.unusedSimpArgs false
mutual
theorem req_congr {pk pk' : ByteArray → Option (List Int)} (vs : List Int) (s : ByteArray) (h : ∀ nm, nm ≠ s → pk nm = pk' nm) : ∀ (t : Ty) (kd : Int), nmsT s t = false → req pk vs t kd = req pk' vs t kd
  | .mk k nm v ts, kd, hn => by
    rw [nmsT, Bool.or_eq_false_iff] at hn
    rw [req, req]
    by_cases h0 : k = 0
    · rw [if_pos h0, if_pos h0]
    rw [if_neg h0, if_neg h0]
    by_cases h1 : k = 1
    · rw [if_pos h1, if_pos h1]
      have hne : nm ≠ s := fun e => by
        have := hn.1
        simp [h1, e] at this
      rw [h nm hne]
      cases pk' nm with
      | none => rfl
      | some l => simp only [reqs_congr vs s h ts l hn.2]
    rw [if_neg h1, if_neg h1, reqs_congr vs s h ts _ hn.2, reqs_congr vs s h ts _ hn.2, reqs_congr vs s h ts _ hn.2]
theorem reqs_congr {pk pk' : ByteArray → Option (List Int)} (vs : List Int) (s : ByteArray) (h : ∀ nm, nm ≠ s → pk nm = pk' nm) : ∀ (ts : List Ty) (l : List Int), nmsTs s ts = false → reqs pk vs ts l = reqs pk' vs ts l
  | [], l, _ => by rw [reqs, reqs]
  | t :: r, [], _ => by rw [reqs, reqs]
  | t :: r, k :: l, hn => by
    rw [nmsTs, Bool.or_eq_false_iff] at hn
    rw [reqs, reqs, req_congr vs s h t k hn.1, reqs_congr vs s h r l hn.2]
end
/-- does a list of kinds do? -/
def okV (kn : List ByteArray) (n : Nat) (t : Ty) (flat : List Int) : Bool := req (pkF kn [] [] (fOf flat)) ((vsN n).map (fOf flat)) t 0
theorem sigN_sat {n : Nat} {flat : List Int} (h : Flat n flat) : Sat (sigN n) (fOf flat) := by
  refine ⟨fun i j hij => ?_, fun i k hi hk hne => ?_, fun i => ?_⟩
  · have hil := (List.getElem?_eq_some_iff.1 hij).1
    rw [(sigN_len n).1] at hil
    rw [sigN_up hil] at hij
    rw [Option.some.inj hij]
  · have hil := (List.getElem?_eq_some_iff.1 hk).1
    rw [(sigN_len n).2] at hil
    rw [sigN_kind hil] at hk
    have := Option.some.inj hk
    split at this
    · rename_i h3
      unfold fOf
      rw [if_pos h3]; exact this
    · omega
  · unfold fOf
    split
    · omega
    · by_cases h2 : i - 3 < flat.length
      · simp only [List.getD, List.getElem?_eq_getElem h2, Option.getD_some]
        exact h.2 _ (List.getElem_mem _)
      · rw [List.getD, List.getElem?_eq_none (by omega)]
        simp
theorem fOf_zero (flat : List Int) : fOf flat 0 = 0 := rfl
section
variable {kn : List ByteArray} {n : Nat} {t : Ty} {er : Int} {xs : List Int}
theorem kind_le (h : (tyErr t false 1 0).2 = 0) : t.kind ≤ 3 := by
  obtain ⟨k, nm, v, ts⟩ := t
  refine Classical.byContradiction fun hk => ?_
  have hk' : ¬ k ≤ 3 := hk
  rw [tyErr] at h
  split at h
  · rename_i h0
    unfold nodeErr at h0
    split at h0
    · cases h0
    split at h0
    · cases h0
    split at h0
    · cases h0
    split at h0
    · cases h0
    rename_i h6
    exact h6 ⟨by omega, by simp; omega⟩
  · rename_i h5
    exact h5 h
/-- what Vars answers is what all solutions agree on -/
theorem vars_answer (h : VarsR kn n t er xs) (h0 : (tyErr t false 1 0).2 = 0) (hr : rowA t = false) : (foundB n (okV kn n t) = [] → er ≠ 0 ∧ xs = []) ∧ (foundB n (okV kn n t) ≠ [] → er = 0 ∧ xs = (List.range n).map (agree (foundB n (okV kn n t)))) := by
  obtain ⟨σ, hW, hx1, hx2⟩ := h.ok h0
  have hC : Cond t 0 := ⟨false, wf_of t false 1 0 h0 hr (.inl (kind_le h0)), fun h => by cases h⟩
  by_cases he : er = 0
  · obtain ⟨hxl, hR⟩ := hx2 he
    have hl : σ.up.length = 3 + n := hW.len.trans (sigN_len n).1
    have hS : ∀ flat, Flat n flat → (Sat σ (fOf flat) ↔ okV kn n t flat = true) := fun flat hf => by
      rw [hW.ok hC he (fOf flat)]
      exact ⟨fun h => h.2, fun h => ⟨sigN_sat hf, h⟩⟩
    refine ⟨fun e => absurd e (found_some hW.inv hl hS), fun _ => ⟨he, ?_⟩⟩
    refine List.ext_getElem? fun j => ?_
    by_cases hj : j < n
    · have hx : xs[j]? = some xs[j] := List.getElem?_eq_getElem (by omega)
      obtain ⟨_, d, r, k, hr, hk, hv⟩ := hR j _ hx
      rw [hx, hv, ← agree_root hW.inv hl hS hj hr hk]
      simp [hj]
    · rw [List.getElem?_eq_none (by omega), List.getElem?_eq_none (by simp; omega)]
  · have hno : foundB n (okV kn n t) = [] := none_found fun flat hf => (hW.bad hC he).2 _ (sigN_sat hf)
    exact ⟨fun _ => ⟨he, hx1 he⟩, fun e => absurd hno e⟩
end
end Go.Ki
namespace Go.Proofs.YtaponemcbnnebaaDoor.ki
open Go.RowKit Go.Eng Go.Ki
set_option linter.unusedVariables false
set_option linter.unusedSimpArgs false
set_option maxRecDepth 100000
theorem int_at {w : World} {B : Nat} {q : Option Addr} {l : List Int} (h : SlAt w B q (ins l)) {i : Nat} (hi : i < l.length) :
    ∃ a u, q = some a ∧ a.block < B ∧ l[i]? = some u ∧ w.cell? (a.add (i * 1)) = some (.int .i64 u) := by
  obtain ⟨a, rfl, hab, hc⟩ := h (by simp [ins]; omega)
  have hs : l[i]? = some l[i] := List.getElem?_eq_getElem hi
  exact ⟨a, l[i], rfl, hab, hs, by rw [Nat.mul_one]; exact hc i _ (by simp [ins, hs])⟩

theorem IEqual_calls (q1 q2 : Option Addr) (cap1 cap2 : Nat) (l1 l2 : List Int) (w : World) (hl1 : l1.length ≤ 9223372036854775807) (hl2 : l2.length ≤ 9223372036854775807) (h1 : SlAt w w.heap.size q1 (ins l1)) (h2 : SlAt w w.heap.size q2 (ins l2)) :
    Calls Tryd.prog 10 #[.slice q1 l1.length cap1, .slice q2 l2.length cap2] w fun e w' => e = .returned (.bool (decide (l1 = l2))) ∧ Ext w w' := by
  refine enter Tryd.func10 rfl Tryd.ntmps10 rfl (Cls.start w) ?_
  (simp only [argEnv, Nat.zero_add, Nat.reduceAdd])
  apply W.seq
  apply W.reg
  apply oas; rfl; rfl
  apply OL.nil
  with_reducible apply At.next
  apply W.seq
  apply W.seq
  apply W.reg
  apply omv; rfl; rfl
  apply OL.op; exact Guard.none; rfl; rfl; apply Pev.len_slice; rfl; exact yes; rfl
  apply omv; rfl; rfl
  apply OL.op; exact Guard.none; rfl; rfl; apply Pev.len_slice; rfl; exact yes; rfl
  apply obn; rfl; rfl; rfl; apply Bin.neq
  apply OL.nil
  with_reducible apply At.next
  (refine W.cond rfl (fun hne => ?_) (fun hne => ?_)) <;> (try (simp only [Bool.and_eq_true, Bool.or_eq_true, Bool.not_eq_true', Bool.and_eq_false_iff, Bool.or_eq_false_iff, Bool.not_eq_false', decide_eq_true_eq, decide_eq_false_iff_not, Int.not_lt, Int.not_le] at hne)) <;> (try (exfalso; first | omega | exact hne trivial | contradiction))
  · apply W.seq
    apply W.reg
    apply oas; rfl; rfl
    apply OL.nil
    with_reducible apply At.next
    apply W.ret
    with_reducible apply At.then_ret
    ((with_reducible apply At.fin1); rfl; rfl; intro w' hw')
    have : ¬ l1 = l2 := fun e => by subst e; exact hne rfl
    exact ⟨by simp [this], by (exact hw'.toExt (by (repeat (first | exact List.Mem.head _ | apply List.Mem.tail))) (fun k hk => by (focus ((try simp only [add_block]); (repeat (first | exact NotOwned.nil | exact hno _ (by omega) | refine NotOwned.nothing ?_ | refine NotOwned.nds (hlow _ (by omega)) ?_ | refine NotOwned.mapS (by omega) ?_ | apply NotOwned.bif | refine NotOwned.blk (by omega) ?_ | refine NotOwned.row (by omega) ?_ | refine NotOwned.grid (by assumption) (by omega) ?_ | refine NotOwned.pile (by omega) ?_)); done))))⟩
  apply W.skip
  with_reducible apply At.next
  apply W.seq
  apply W.seq
  apply W.reg
  apply omv; rfl; rfl
  apply OL.op; exact Guard.none; rfl; rfl; apply Pev.len_slice; rfl; exact yes; rfl
  apply omv; rfl; rfl
  apply OL.nil
  with_reducible apply At.next
  apply W.block
  refine W.loop (G := Nat) (fun i => i ≤ l1.length ∧ ∀ j, j < i → l1[j]? = l2[j]?) (fun i => l1.length - i)
    (fun i => [(13, true, .int .i64 (i : Int)), (12, true, .int .i64 (l1.length : Int)), (0, true, .slice q1 l1.length cap1), (1, true, .slice q2 l2.length cap2)])
    (fun i => Cls [] [w]) 0 ⟨by omega, fun j hj => by omega⟩ (by (repeat (first | exact Sub.nil | apply Sub.cons rfl | (refine Sub.cons_eq rfl (congrArg (Value.int .i64) (by first | omega | (simp only; omega))) ?_)))) (fun w' hw' => hw') ?_
  rintro i ⟨hi, hsame⟩
  apply W.seq
  apply W.reg
  apply obn; rfl; rfl; rfl; apply Bin.lss
  apply OL.nil
  with_reducible apply At.next
  apply W.seq
  (refine W.cond rfl (fun hlt => ?_) (fun hlt => ?_)) <;> (try (simp only [Bool.and_eq_true, Bool.or_eq_true, Bool.not_eq_true', Bool.and_eq_false_iff, Bool.or_eq_false_iff, Bool.not_eq_false', decide_eq_true_eq, decide_eq_false_iff_not, Int.not_lt, Int.not_le] at hlt)) <;> (try (exfalso; first | omega | exact hlt trivial | contradiction))
  · obtain ⟨a, u, rfl, hab, hu, hcell⟩ := int_at h1 (show i < l1.length by omega)
    obtain ⟨a2, u2, rfl, hab2, hu2, hcell2⟩ := int_at h2 (show i < l2.length by omega)
    apply W.skip
    with_reducible apply At.next
    apply W.seq
    apply W.block
    apply W.seq
    apply W.reg
    apply omv; rfl; rfl
    apply oas; rfl; rfl
    apply OL.nil
    with_reducible apply At.next
    apply W.seq
    apply W.regd0; decide +kernel; kernel_rfl; decide +kernel; exact fun w hw => hw.drew
    apply qmv; rfl; rfl
    apply qmv; rfl; rfl
    apply QL.op; exact Guard.none; rfl; rfl; apply Pev.idx; rfl; exact yes; rfl; exact yes; rfl; rfl; intro hcond; omega
    apply QL.op; exact Guard.none; rfl; rfl; apply Pev.load_kept; rfl; exact yes; exact .head _; rfl; intro hcond; assumption; intro hcond; (rw [add_block]; assumption); intro hcond; exact NotOwned.nil
    apply qmv; rfl; rfl
    apply qmv; rfl; rfl
    apply QL.op; exact Guard.none; rfl; rfl; apply Pev.idx; rfl; exact yes; rfl; exact yes; rfl; rfl; intro hcond; omega
    apply QL.op; exact Guard.none; rfl; rfl; apply Pev.load_kept; rfl; exact yes; exact .head _; rfl; intro hcond; assumption; intro hcond; (rw [add_block]; assumption); intro hcond; exact NotOwned.nil
    apply qbn; rfl; rfl; rfl; apply Bin.neq
    apply QL.nil
    with_reducible apply At.next
    (refine W.cond rfl (fun hd => ?_) (fun hd => ?_)) <;> (try (simp only [Bool.and_eq_true, Bool.or_eq_true, Bool.not_eq_true', Bool.and_eq_false_iff, Bool.or_eq_false_iff, Bool.not_eq_false', decide_eq_true_eq, decide_eq_false_iff_not, Int.not_lt, Int.not_le] at hd)) <;> (try (exfalso; first | omega | exact hd trivial | contradiction))
    · apply W.seq
      apply W.reg
      apply oas; rfl; rfl
      apply OL.nil
      with_reducible apply At.next
      apply W.ret
      with_reducible apply At.in_ret
      with_reducible apply At.then_ret
      with_reducible apply At.then_ret
      with_reducible apply At.in_ret
      with_reducible apply At.then_ret
      ((with_reducible apply At.fin1); rfl; rfl; intro w' hw')
      have : ¬ l1 = l2 := fun e => by
        subst e
        rw [hu] at hu2
        exact hd (Option.some.inj hu2)
      exact ⟨by simp [this], by (exact hw'.toExt (by (repeat (first | exact List.Mem.head _ | apply List.Mem.tail))) (fun k hk => by (focus ((try simp only [add_block]); (repeat (first | exact NotOwned.nil | exact hno _ (by omega) | refine NotOwned.nothing ?_ | refine NotOwned.nds (hlow _ (by omega)) ?_ | refine NotOwned.mapS (by omega) ?_ | apply NotOwned.bif | refine NotOwned.blk (by omega) ?_ | refine NotOwned.row (by omega) ?_ | refine NotOwned.grid (by assumption) (by omega) ?_ | refine NotOwned.pile (by omega) ?_)); done))))⟩
    · apply W.skip
      with_reducible apply At.in_normal
      with_reducible apply At.next
      apply W.reg
      apply obn; rfl; rfl; rfl; apply Bin.add_in; omega
      apply omv; rfl; rfl
      apply OL.nil
      refine At.again (i + 1) ⟨by omega, fun j hj => ?_⟩ (by omega) (by (repeat (first | exact Sub.nil | apply Sub.cons rfl | (refine Sub.cons_eq rfl (congrArg (Value.int .i64) (by first | omega | (simp only; omega))) ?_)))) (fun w' hw' => hw')
      by_cases hji : j = i
      · subst hji
        rw [hu, hu2, show u = u2 by first | omega | (simpa using hd)]
      · exact hsame j (by omega)
  · apply W.exit
    with_reducible apply At.then_exit
    with_reducible apply At.then_exit
    with_reducible apply At.in_exit
    with_reducible apply At.next
    apply W.seq
    apply W.reg
    apply oas; rfl; rfl
    apply OL.nil
    with_reducible apply At.next
    apply W.ret
    ((with_reducible apply At.fin1); rfl; rfl; intro w' hw')
    have : l1 = l2 := List.ext_getElem? fun j => by
      rcases Nat.lt_or_ge j l1.length with h | h
      · exact hsame j (by omega)
      · rw [List.getElem?_eq_none h, List.getElem?_eq_none (by omega)]
    exact ⟨by simp [this], by (exact hw'.toExt (by (repeat (first | exact List.Mem.head _ | apply List.Mem.tail))) (fun k hk => by (focus ((try simp only [add_block]); (repeat (first | exact NotOwned.nil | exact hno _ (by omega) | refine NotOwned.nothing ?_ | refine NotOwned.nds (hlow _ (by omega)) ?_ | refine NotOwned.mapS (by omega) ?_ | apply NotOwned.bif | refine NotOwned.blk (by omega) ?_ | refine NotOwned.row (by omega) ?_ | refine NotOwned.grid (by assumption) (by omega) ?_ | refine NotOwned.pile (by omega) ?_)); done))))⟩
end Go.Proofs.YtaponemcbnnebaaDoor.ki
