/- Plain: Order and the reference's ModuleOrder choose alike. No program in sight. -/
import Derived.Test.YtgllgllbgojhfaaMoP
namespace Go.Mo
open Go.Eng
set_option linter.unusedVariables false
set_option linter.unusedSimpArgs false

/-- of an accepted list: no name twice, every import is a name -/
theorem chk_nodup {l : List ByteArray} {ll : List (List ByteArray)} (h : chk l ll = 0) : (∀ i j, i < l.length → j < l.length → nm l i = nm l j → i = j) ∧ (∀ i s, s ∈ ll.getD i [] → ∃ j, j < l.length ∧ nm l j = s) := by
  obtain ⟨h1, h2⟩ := chk_len h
  unfold chk at h
  rw [if_neg (by omega), if_neg (by omega)] at h
  have hd : dupA l = false := by
    cases hx : dupA l
    · rfl
    · simp [hx] at h
  have hm : miss l ll = false := by
    rw [hd] at h
    cases hx : miss l ll
    · rfl
    · simp [hx] at h
  have hnm : ∀ i, i < l.length → l[i]? = some (nm l i) := fun i hi => by
    have h3 : l[i]? = some l[i] := List.getElem?_eq_getElem hi
    rw [h3, show nm l i = l[i] from getD_of h3]
  have hlt : ∀ i j, i < j → j < l.length → nm l i ≠ nm l j := fun i j hij hj he => by
    have : dupA l = true := dupA_yes (i := j) (s := nm l j) (hnm j hj) (hasB_iff.2 (by
      rw [← he]
      refine List.mem_of_getElem? (i := i) ?_
      rw [List.getElem?_take_of_lt hij]
      exact hnm i (by omega)))
    rw [hd] at this
    cases this
  refine ⟨fun i j hi hj he => ?_, fun i s hs => ?_⟩
  · rcases Nat.lt_trichotomy i j with h3 | h3 | h3
    · exact absurd he (hlt i j h3 hj)
    · exact h3
    · exact absurd he.symm (hlt j i h3 hi)
  · rw [List.getD_eq_getElem?_getD] at hs
    cases hi : ll[i]? with
    | none => rw [hi] at hs; cases hs
    | some m =>
      rw [hi, Option.getD_some] at hs
      obtain ⟨j, hj⟩ := List.mem_iff_getElem?.1 hs
      cases hb : hasB l s with
      | false =>
        have := miss_yes hi hj hb
        rw [hm] at this
        cases this
      | true =>
        obtain ⟨k, hk⟩ := List.mem_iff_getElem?.1 (hasB_iff.1 hb)
        exact ⟨k, (List.getElem?_eq_some_iff.1 hk).1, getD_of hk⟩

/-- what is done is closed under imports -/
structure Closed (l : List ByteArray) (ll : List (List ByteArray)) (out : List Nat) : Prop where
  lt : ∀ i ∈ out, i < l.length
  cl : ∀ i ∈ out, ∀ j, j < l.length → dir l ll i j = true → j ∈ out
theorem Closed.path {l : List ByteArray} {ll : List (List ByteArray)} {out : List Nat} (h : Closed l ll out) {i j : Nat} (hp : Path l ll i j) : (∀ k, k < l.length → dir l ll i k = true → k ∈ out) → j ∈ out := by
  induction hp with
  | one hi hj hd => exact fun hk => hk _ hj hd
  | two h1 h2 ih1 ih2 => exact fun hk => ih2 (fun k' hk' hd => h.cl _ (ih1 hk) k' hk' hd)
section
variable {l : List ByteArray} {ll : List (List ByteArray)} {M : List (List Bool)} {out : List Nat}
theorem done_iff (h : chk l ll = 0) (hc : Closed l ll out) {i : Nat} (hi : i < l.length) : hasB (out.map (nm l)) (nm l i) = decide (i ∈ out) := by
  rw [Bool.eq_iff_iff, hasB_iff, decide_eq_true_eq, List.mem_map]
  constructor
  · rintro ⟨k, hk, he⟩
    rw [← (chk_nodup h).1 k i (hc.lt k hk) hi he]
    exact hk
  · exact fun hm => ⟨i, hm, rfl⟩
theorem ready_iff (h : chk l ll = 0) (hc : Closed l ll out) {i : Nat} (hi : i < l.length) : ready l ll (out.map (nm l)) i = true ↔ i ∉ out ∧ ∀ k, k < l.length → dir l ll i k = true → k ∈ out := by
  unfold ready
  rw [done_iff h hc hi, Bool.and_eq_true, Bool.not_eq_true', Bool.not_eq_true', decide_eq_false_iff_not, List.any_eq_false]
  refine and_congr_right fun _ => ⟨fun hs k hk hd => ?_, fun hk s hs => ?_⟩
  · have := hs (nm l k) (hasB_iff.1 hd)
    rw [done_iff h hc hk] at this
    simpa using this
  · obtain ⟨j, hj, rfl⟩ := (chk_nodup h).2 i s hs
    rw [done_iff h hc hj]
    have := hk j hj (hasB_iff.2 hs)
    simp [this]
theorem okTo_iff (hM : GoodM l ll M) {i : Nat} (hi : i < l.length) : okTo M out i l.length = true ↔ i ∉ out ∧ ∀ j, j < l.length → mget M i j = true → j ∈ out ∧ i ≠ j := by
  unfold okTo
  rw [Bool.and_eq_true, Bool.not_eq_true', Bool.not_eq_true', decide_eq_false_iff_not, List.any_eq_false]
  refine and_congr_right fun _ => ⟨fun hs j hj hm => ?_, fun hs j hj => ?_⟩
  · have := hs j (List.mem_range.2 hj)
    simp only [bad, hm, Bool.true_and, Bool.or_eq_true, Bool.not_eq_true', decide_eq_false_iff_not, decide_eq_true_eq, not_or, Classical.not_not] at this
    exact this
  · intro hb
    rw [bad, Bool.and_eq_true] at hb
    obtain ⟨h1, h2⟩ := hs j (List.mem_range.1 hj) hb.1
    simp [h1, h2] at hb
theorem mget_iff (hM : GoodM l ll M) {i j : Nat} (hi : i < l.length) (hj : j < l.length) : (mget M i j = true → Path l ll i j) ∧ (dir l ll i j = true → mget M i j = true) := by
  obtain ⟨r, hr⟩ : ∃ r, M[i]? = some r := ⟨_, List.getElem?_eq_getElem (by rw [hM.len]; exact hi)⟩
  have hrl := hM.row _ _ hr
  have hb : r[j]? = some (r[j]'(by omega)) := List.getElem?_eq_getElem (by omega)
  rw [mget_of hr hb]
  exact ⟨fun h => hM.snd i j r hr (by rw [hb, h]), fun h => by
    have := hM.inc i j r hr hj h
    rw [hb] at this
    exact Option.some.inj this⟩
theorem ready_ok (h : chk l ll = 0) (hM : GoodM l ll M) (hc : Closed l ll out) {i : Nat} (hi : i < l.length) : ready l ll (out.map (nm l)) i = okTo M out i l.length := by
  rw [Bool.eq_iff_iff, ready_iff h hc hi, okTo_iff hM hi]
  refine and_congr_right fun hno => ⟨fun hd j hj hm => ?_, fun hs k hk hd => (hs k hk ((mget_iff hM hi hk).2 hd)).1⟩
  have hjo := hc.path ((mget_iff hM hi hj).1 hm) hd
  exact ⟨hjo, fun e => hno (e ▸ hjo)⟩
theorem step_eq (h : chk l ll = 0) (hM : GoodM l ll M) (hc : Closed l ll out) {i : Nat} (hi : i < l.length) (b : Int) : step l ll (out.map (nm l)) b i = stepR l M out b i := by
  unfold step stepR; rw [ready_ok h hM hc hi]
theorem best_eq (h : chk l ll = 0) (hM : GoodM l ll M) (hc : Closed l ll out) : ∀ k, k ≤ l.length → best l ll (out.map (nm l)) k = bestR l M out k
  | 0, _ => rfl
  | k + 1, hk => by rw [best_succ, bestR_succ, best_eq h hM hc k (by omega), step_eq h hM hc (by omega)]
theorem best_ready (done : List ByteArray) : ∀ k, 0 ≤ best l ll done k → ready l ll done (best l ll done k).toNat = true
  | 0, h => by simp [best] at h
  | k + 1, h => by
    rw [best_succ] at h ⊢
    unfold step at h ⊢
    split
    · rename_i hc
      rw [Bool.and_eq_true] at hc
      simpa using hc.1
    · rename_i hc
      rw [if_neg hc] at h
      exact best_ready done k h
theorem Closed.push (h : chk l ll = 0) (hc : Closed l ll out) {b : Nat} (hb : b < l.length) (hr : ready l ll (out.map (nm l)) b = true) : Closed l ll (out ++ [b]) := by
  have hr' := ((ready_iff h hc hb).1 hr).2
  refine ⟨fun i hi => ?_, fun i hi j hj hd => ?_⟩
  · rcases List.mem_append.1 hi with hi | hi
    · exact hc.lt i hi
    · rw [List.mem_singleton.1 hi]; exact hb
  · refine List.mem_append.2 (.inl ?_)
    rcases List.mem_append.1 hi with hi | hi
    · exact hc.cl i hi j hj hd
    · rw [List.mem_singleton.1 hi] at hd
      exact hr' j hj hd
theorem ord_mord (h : chk l ll = 0) (hM : GoodM l ll M) : ∀ (f : Nat) (out : List Nat), Closed l ll out → ordFrom l ll f out (out.map (nm l)) = mordFrom l M f out
  | 0, out, _ => rfl
  | f + 1, out, hc => by
    rw [ordFrom, mordFrom, best_eq h hM hc _ (Nat.le_refl _)]
    by_cases hn : bestR l M out l.length < 0
    · rw [if_pos hn, if_pos hn]
    · rw [if_neg hn, if_neg hn]
      have hin := bestR_in l M out l.length
      have hr : ready l ll (out.map (nm l)) (bestR l M out l.length).toNat = true := by
        rw [← best_eq h hM hc _ (Nat.le_refl _)]
        exact best_ready _ _ (by rw [best_eq h hM hc _ (Nat.le_refl _)]; omega)
      have := ord_mord h hM f (out ++ [(bestR l M out l.length).toNat]) (hc.push h (by omega) hr)
      rw [List.map_append, List.map_cons, List.map_nil] at this
      exact this
theorem ord_eq (h : chk l ll = 0) (hM : GoodM l ll M) : ord l ll = mordFrom l M l.length [] :=
  ord_mord h hM l.length [] ⟨fun i hi => (by cases hi), fun i hi => (by cases hi)⟩
theorem mord_len : ∀ (f : Nat) (out r : List Nat), mordFrom l M f out = some r → r.length = out.length + f
  | 0, out, r, h => by rw [mordFrom] at h; rw [← Option.some.inj h]; rfl
  | f + 1, out, r, h => by
    rw [mordFrom] at h
    split at h
    · cases h
    · have := mord_len f _ r h
      simp at this
      omega
end
end Go.Mo
