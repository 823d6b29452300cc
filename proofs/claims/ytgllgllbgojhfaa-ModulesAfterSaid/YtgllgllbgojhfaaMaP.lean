/- Plain: what reaches the changed modules; the reference's matrix tells all paths; sorted lists without doubles. No program in sight. -/
import Derived.Test.YtgllgllbgojhfaaMoP
import Derived.Test.YtgllgllbgojhfaaMoG
import Derived.Lib.SlicesCompact
namespace Go.Mo
open Go.Eng
set_option linter.unusedVariables false
set_option linter.unusedSimpArgs false

/-! all paths -/
/-- a path over nodes under K -/
def PB (l : List ByteArray) (ll : List (List ByteArray)) : Nat → Nat → Nat → Prop
  | 0, i, j => dir l ll i j = true
  | k + 1, i, j => PB l ll k i j ∨ (PB l ll k i k ∧ PB l ll k k j)
section
variable {l : List ByteArray} {ll : List (List ByteArray)}
theorem PB.up {i j : Nat} : ∀ {K K' : Nat}, K ≤ K' → PB l ll K i j → PB l ll K' i j
  | K, 0, h, hp => by
    obtain rfl : K = 0 := by omega
    exact hp
  | K, K' + 1, h, hp => by
    rcases Nat.lt_or_ge K (K' + 1) with h1 | h1
    · exact .inl (PB.up (by omega) hp)
    · obtain rfl : K = K' + 1 := by omega
      exact hp
theorem PB.via {i j m : Nat} : ∀ {K : Nat}, m < K → PB l ll K i m → PB l ll K m j → PB l ll K i j
  | 0, h, _, _ => by omega
  | K + 1, h, h1, h2 => by
    rcases Nat.lt_or_ge m K with hm | hm
    · rcases h1 with h1 | ⟨h1, h1'⟩
      · rcases h2 with h2 | ⟨h2, h2'⟩
        · exact .inl (PB.via hm h1 h2)
        · exact .inr ⟨PB.via hm h1 h2, h2'⟩
      · rcases h2 with h2 | ⟨h2, h2'⟩
        · exact .inr ⟨h1, PB.via hm h1' h2⟩
        · exact .inr ⟨h1, h2'⟩
    · obtain rfl : m = K := by omega
      have g1 : PB l ll m i m := by rcases h1 with h1 | h1; exact h1; exact h1.1
      have g2 : PB l ll m m j := by rcases h2 with h2 | h2; exact h2; exact h2.2
      exact .inr ⟨g1, g2⟩
theorem Path.lt {i j : Nat} (h : Path l ll i j) : i < l.length ∧ j < l.length := by
  induction h with
  | one hi hj _ => exact ⟨hi, hj⟩
  | two _ _ ih1 ih2 => exact ⟨ih1.1, ih2.2⟩
theorem Path.pb {i j : Nat} (h : Path l ll i j) : PB l ll l.length i j := by
  induction h with
  | one hi hj hd => exact PB.up (Nat.zero_le _) hd
  | two h1 h2 ih1 ih2 => exact PB.via h1.lt.2 ih1 ih2

/-- where the reference's loops stand -/
def St (l : List ByteArray) (ll : List (List ByteArray)) (k i j : Nat) (M : List (List Bool)) : Prop :=
  GoodM l ll M ∧ ∃ M0, (∀ a b, a < l.length → b < l.length → PB l ll k a b → mget M0 a b = true) ∧ (∀ a b, mget M0 a b = true → mget M a b = true) ∧
    (∀ a b, a < l.length → b < l.length → (a < i ∨ (a = i ∧ b < j)) → mget M0 a k = true → mget M0 k b = true → mget M a b = true)
theorem St.init : St l ll 0 0 0 (initM l ll l.length) :=
  ⟨GoodM.init l ll, _, fun a b ha hb h => (mget_iff (GoodM.init l ll) ha hb).2 h, fun _ _ h => h, fun a b _ _ h => by omega⟩
theorem mget_set {M : List (List Bool)} {i j a b : Nat} {r : List Bool} (hr : M[i]? = some r) (hj : j < r.length) : mget (M.set i (r.set j true)) a b = if a = i ∧ b = j then true else mget M a b := by
  have hi := (List.getElem?_eq_some_iff.1 hr).1
  unfold mget
  by_cases ha : a = i
  · subst ha
    rw [List.getD_eq_getElem?_getD (l := M.set a _), List.getElem?_set_self hi, Option.getD_some, List.getD_eq_getElem?_getD (l := M), hr, Option.getD_some]
    by_cases hb : b = j
    · subst hb
      rw [if_pos ⟨rfl, rfl⟩, List.getD_eq_getElem?_getD, List.getElem?_set_self hj]; rfl
    · rw [if_neg (fun h => hb h.2), List.getD_eq_getElem?_getD, List.getElem?_set_ne (fun e => hb e.symm), List.getD_eq_getElem?_getD]
  · rw [if_neg (fun h => ha h.1), List.getD_eq_getElem?_getD (l := M.set i _), List.getElem?_set_ne (fun e => ha e.symm), List.getD_eq_getElem?_getD (l := M)]
theorem St.set {k i j : Nat} {M : List (List Bool)} (h : St l ll k i j M) {r rk : List Bool} (hi : M[i]? = some r) (hk : M[k]? = some rk) (h1 : r[k]? = some true) (h2 : rk[j]? = some true) (hj : j < r.length) : St l ll k i (j + 1) (M.set i (r.set j true)) := by
  obtain ⟨hM, M0, h3, h4, h5⟩ := h
  refine ⟨hM.set hi hk h1 h2, M0, h3, fun a b hab => ?_, fun a b ha hb hab hak hkb => ?_⟩
  · rw [mget_set hi hj]
    split
    · rfl
    · exact h4 a b hab
  · rw [mget_set hi hj]
    split
    · rfl
    · rename_i hne
      refine h5 a b ha hb ?_ hak hkb
      rcases hab with hab | ⟨rfl, hb2⟩
      · exact .inl hab
      · refine .inr ⟨rfl, ?_⟩
        have : b ≠ j := fun e => hne ⟨rfl, e⟩
        omega
theorem St.skip {k i j : Nat} {M : List (List Bool)} (h : St l ll k i j M) {r rk : List Bool} {c1 c2 : Bool} (hi : M[i]? = some r) (hk : M[k]? = some rk) (h1 : r[k]? = some c1) (h2 : rk[j]? = some c2) (hc : (c1 && c2) = false) : St l ll k i (j + 1) M := by
  obtain ⟨hM, M0, h3, h4, h5⟩ := h
  refine ⟨hM, M0, h3, h4, fun a b ha hb hab hak hkb => ?_⟩
  by_cases hne : a = i ∧ b = j
  · obtain ⟨rfl, rfl⟩ := hne
    have g1 := h4 _ _ hak
    have g2 := h4 _ _ hkb
    rw [mget_of hi h1] at g1
    rw [mget_of hk h2] at g2
    rw [g1, g2] at hc
    cases hc
  · refine h5 a b ha hb ?_ hak hkb
    rcases hab with hab | ⟨rfl, hb2⟩
    · exact .inl hab
    · refine .inr ⟨rfl, ?_⟩
      have : b ≠ j := fun e => hne ⟨rfl, e⟩
      omega
theorem St.row {k i : Nat} {M : List (List Bool)} (h : St l ll k i l.length M) : St l ll k (i + 1) 0 M := by
  obtain ⟨hM, M0, h3, h4, h5⟩ := h
  exact ⟨hM, M0, h3, h4, fun a b ha hb hab => h5 a b ha hb (by omega)⟩
theorem St.next {k : Nat} {M : List (List Bool)} (hk : k < l.length) (h : St l ll k l.length 0 M) : St l ll (k + 1) 0 0 M := by
  obtain ⟨hM, M0, h3, h4, h5⟩ := h
  refine ⟨hM, M, fun a b ha hb hp => ?_, fun _ _ h => h, fun a b _ _ h => by omega⟩
  rcases hp with hp | ⟨hp, hq⟩
  · exact h4 _ _ (h3 a b ha hb hp)
  · exact h5 a b ha hb (.inl ha) (h3 a k ha hk hp) (h3 k b hk hb hq)
theorem St.all {M : List (List Bool)} (h : St l ll l.length 0 0 M) : ∀ i j, i < l.length → j < l.length → (mget M i j = true ↔ Path l ll i j) := fun i j hi hj => by
  obtain ⟨hM, M0, h3, h4, h5⟩ := h
  exact ⟨(mget_iff hM hi hj).1, fun hp => h4 _ _ (h3 i j hi hj hp.pb)⟩

/-! what reaches the changed ones -/
variable {ch : List ByteArray}
def Rch (l : List ByteArray) (ll : List (List ByteArray)) (ch : List ByteArray) (i : Nat) : Prop := nm l i ∈ ch ∨ ∃ j, j < l.length ∧ Path l ll i j ∧ nm l j ∈ ch
def addI (l : List ByteArray) (ll : List (List ByteArray)) (xs : List ByteArray) (i : Nat) : Bool := !hasB xs (nm l i) && (ll.getD i []).any (hasB xs)
/-- how many names are still without -/
def cnt (l : List ByteArray) (xs : List ByteArray) : Nat := (l.filter fun s => !hasB xs s).length
structure GoodX (l : List ByteArray) (ll : List (List ByteArray)) (ch xs : List ByteArray) : Prop where
  inn : ∀ s ∈ xs, ∃ i, i < l.length ∧ nm l i = s ∧ Rch l ll ch i
  sub : ∀ s ∈ ch, s ∈ xs
  len : xs.length + cnt l xs ≤ ch.length + l.length
theorem cnt_push {xs : List ByteArray} {s : ByteArray} (hs : s ∈ l) (hn : hasB xs s = false) : cnt l (xs ++ [s]) < cnt l xs := by
  unfold cnt
  have key : ∀ m : List ByteArray, (m.filter fun u => !hasB (xs ++ [s]) u).length ≤ (m.filter fun u => !hasB xs u).length ∧ (s ∈ m → (m.filter fun u => !hasB (xs ++ [s]) u).length < (m.filter fun u => !hasB xs u).length) := by
    intro m
    induction m with
    | nil => exact ⟨Nat.le_refl _, fun h => by cases h⟩
    | cons u m ih =>
      have hu : hasB (xs ++ [s]) u = (hasB xs u || decide (u = s)) := by simp [hasB]
      rw [List.filter_cons, List.filter_cons, hu]
      by_cases e : u = s
      · subst e
        rw [hn]
        simp only [decide_true, Bool.or_true, Bool.not_true, Bool.false_eq_true, if_false, Bool.not_false, if_true, List.length_cons]
        exact ⟨by omega, fun _ => by omega⟩
      · rw [decide_eq_false e, Bool.or_false]
        cases hx : hasB xs u with
        | true =>
          simp only [Bool.not_true, Bool.false_eq_true, if_false]
          exact ⟨ih.1, fun h => ih.2 (by rcases List.mem_cons.1 h with h | h; exact absurd h.symm e; exact h)⟩
        | false =>
          simp only [Bool.not_false, if_true, List.length_cons]
          exact ⟨by omega, fun h => by have := ih.2 (by rcases List.mem_cons.1 h with h | h; exact absurd h.symm e; exact h); omega⟩
  exact (key l).2 hs
theorem nm_mem {i : Nat} (hi : i < l.length) : nm l i ∈ l := by
  unfold nm
  rw [List.getD_eq_getElem?_getD, List.getElem?_eq_getElem hi]
  exact List.getElem_mem hi
theorem GoodX.push (hc : chk l ll = 0) {xs : List ByteArray} (h : GoodX l ll ch xs) {i : Nat} (hi : i < l.length) (ha : addI l ll xs i = true) : GoodX l ll ch (xs ++ [nm l i]) := by
  unfold addI at ha
  simp only [Bool.and_eq_true, Bool.not_eq_true'] at ha
  refine ⟨fun s hs => ?_, fun s hs => List.mem_append_left _ (h.sub s hs), ?_⟩
  · rcases List.mem_append.1 hs with hs | hs
    · exact h.inn s hs
    · rw [List.mem_singleton.1 hs]
      refine ⟨i, hi, rfl, ?_⟩
      obtain ⟨m, hm, hx⟩ := List.any_eq_true.1 ha.2
      obtain ⟨j, hj, ej, hr⟩ := h.inn m (hasB_iff.1 hx)
      have hd : dir l ll i j = true := by unfold dir; rw [ej]; exact hasB_iff.2 hm
      rcases hr with hr | ⟨k, hk, hp, hr⟩
      · exact .inr ⟨j, hj, .one hi hj hd, hr⟩
      · exact .inr ⟨k, hk, .two (.one hi hj hd) hp, hr⟩
  · have := cnt_push (nm_mem hi) ha.1
    have := h.len
    rw [List.length_append, List.length_cons, List.length_nil]
    omega
/-- at the end: the names with what reaches the changed ones -/
theorem GoodX.all (hc : chk l ll = 0) {xs : List ByteArray} (h : GoodX l ll ch xs) (hd : ∀ i, i < l.length → addI l ll xs i = false) {i : Nat} (hi : i < l.length) : nm l i ∈ xs ↔ Rch l ll ch i := by
  constructor
  · intro hm
    obtain ⟨j, hj, e, hr⟩ := h.inn _ hm
    rw [(chk_nodup hc).1 j i hj hi e] at hr
    exact hr
  · have step : ∀ {a b : Nat}, Path l ll a b → nm l b ∈ xs → nm l a ∈ xs := by
      intro a b hp
      induction hp with
      | one ha hb hdir =>
        intro hx
        have := hd _ ha
        unfold addI at this
        rw [Bool.and_eq_false_iff] at this
        rcases this with this | this
        · exact hasB_iff.1 (by simpa using this)
        · exact absurd this (by rw [Bool.not_eq_false]; exact List.any_eq_true.2 ⟨_, hasB_iff.1 hdir, hasB_iff.2 hx⟩)
      | two _ _ ih1 ih2 => exact fun hx => ih1 (ih2 hx)
    rintro (hr | ⟨j, hj, hp, hr⟩)
    · exact h.sub _ hr
    · exact step hp (h.sub _ hr)
/-- what the reference tests -/
def isR (l : List ByteArray) (M : List (List Bool)) (ch : List ByteArray) (i : Nat) (k : Nat) : Bool := hasB ch (nm l i) || (List.range k).any fun j => mget M i j && hasB ch (nm l j)
theorem isR_zero (l : List ByteArray) (M : List (List Bool)) (ch : List ByteArray) (i : Nat) : isR l M ch i 0 = hasB ch (nm l i) := by simp [isR]
theorem isR_succ (l : List ByteArray) (M : List (List Bool)) (ch : List ByteArray) (i k : Nat) : isR l M ch i (k + 1) = (isR l M ch i k || (mget M i k && hasB ch (nm l k))) := by
  unfold isR; rw [List.range_succ, List.any_append, List.any_cons, List.any_nil, Bool.or_false, Bool.or_assoc]
def outR (l : List ByteArray) (M : List (List Bool)) (ch : List ByteArray) (k : Nat) : List ByteArray := ((List.range k).filter fun i => isR l M ch i l.length).map (nm l)
theorem outR_succ (l : List ByteArray) (M : List (List Bool)) (ch : List ByteArray) (k : Nat) : outR l M ch (k + 1) = outR l M ch k ++ if isR l M ch k l.length then [nm l k] else [] := by
  unfold outR
  rw [List.range_succ, List.filter_append, List.map_append]
  congr 1
  rw [List.filter_cons]
  split <;> rfl
theorem isR_iff {M : List (List Bool)} (hM : ∀ i j, i < l.length → j < l.length → (mget M i j = true ↔ Path l ll i j)) {i : Nat} (hi : i < l.length) : isR l M ch i l.length = true ↔ Rch l ll ch i := by
  unfold isR Rch
  rw [Bool.or_eq_true, hasB_iff, List.any_eq_true]
  refine or_congr_right ⟨fun ⟨j, hj, h⟩ => ?_, fun ⟨j, hj, hp, h⟩ => ⟨j, List.mem_range.2 hj, ?_⟩⟩
  · rw [Bool.and_eq_true, hasB_iff] at h
    have hj' := List.mem_range.1 hj
    exact ⟨j, hj', (hM i j hi hj').1 h.1, h.2⟩
  · rw [Bool.and_eq_true, hasB_iff]
    exact ⟨(hM i j hi hj).2 hp, h⟩
end

/-! sorted lists -/
theorem strict_eq {α : Type} {le : α → α → Prop} (anti : ∀ a b, le a b → le b a → a = b) : ∀ {a b : List α}, a.Pairwise le → b.Pairwise le → a.Nodup → b.Nodup → (∀ x, x ∈ a ↔ x ∈ b) → a = b
  | [], [], _, _, _, _, _ => rfl
  | [], y :: b, _, _, _, _, h => by have := (h y).2 (.head _); cases this
  | x :: a, [], _, _, _, _, h => by have := (h x).1 (.head _); cases this
  | x :: a, y :: b, ha, hb, na, nb, h => by
    have hx : x = y := by
      rcases List.mem_cons.1 ((h x).1 (.head _)) with e | e
      · exact e
      · rcases List.mem_cons.1 ((h y).2 (.head _)) with e2 | e2
        · exact e2.symm
        · exact anti x y ((List.pairwise_cons.1 ha).1 y e2) ((List.pairwise_cons.1 hb).1 x e)
    subst hx
    congr 1
    refine strict_eq anti (List.pairwise_cons.1 ha).2 (List.pairwise_cons.1 hb).2 (List.nodup_cons.1 na).2 (List.nodup_cons.1 nb).2 fun z => ?_
    have := h z
    rw [List.mem_cons, List.mem_cons] at this
    constructor
    · intro hz
      rcases this.1 (.inr hz) with e | e
      · subst e; exact absurd hz (List.nodup_cons.1 na).1
      · exact e
    · intro hz
      rcases this.2 (.inr hz) with e | e
      · subst e; exact absurd hz (List.nodup_cons.1 nb).1
      · exact e
abbrev leB (x y : List UInt8) : Bool := decide (x ≤ y)
def srt (xs : List (List UInt8)) : List (List UInt8) := xs.mergeSort leB
theorem srt_sorted (xs : List (List UInt8)) : (srt xs).Pairwise (fun x y => x ≤ y) := by
  have h := List.pairwise_mergeSort (le := leB) (fun a b c h1 h2 => by simp [leB] at *; exact List.le_trans h1 h2) (fun a b => by simp [leB]; exact List.le_total a b) xs
  exact h.imp fun h => of_decide_eq_true h
theorem srt_mem (xs : List (List UInt8)) (x : List UInt8) : x ∈ srt xs ↔ x ∈ xs := List.mem_mergeSort
theorem srt_len (xs : List (List UInt8)) : (srt xs).length = xs.length := List.length_mergeSort _
theorem cu_spec {d : List (List UInt8)} (hs : d.Pairwise (fun x y => x ≤ y)) : ∀ m, m ≤ d.length →
    (∀ x ∈ Lib.compactUpTo d.toArray m, ∃ j, j < m ∧ d[j]? = some x) ∧ (∀ j x, j < m → d[j]? = some x → x ∈ Lib.compactUpTo d.toArray m) ∧ (Lib.compactUpTo d.toArray m).Nodup ∧ (Lib.compactUpTo d.toArray m).Pairwise (fun x y => x ≤ y)
  | 0, _ => by simp [Lib.compactUpTo]
  | m + 1, hm => by
    obtain ⟨h1, h2, h3, h4⟩ := cu_spec hs m (by omega)
    have hg : ∀ j, j < d.length → d.toArray[j]! = d.getD j [] ∧ d[j]? = some (d.getD j []) := fun j hj => by
      rw [List.getD_eq_getElem?_getD, List.getElem?_eq_getElem hj]
      exact ⟨by rw [getElem!_pos d.toArray j (by simpa using hj)]; simp, rfl⟩
    have hle : ∀ i j x y, i < j → d[i]? = some x → d[j]? = some y → x ≤ y := fun i j x y hij hi hj => by
      obtain ⟨hil, rfl⟩ := List.getElem?_eq_some_iff.1 hi
      obtain ⟨hjl, rfl⟩ := List.getElem?_eq_some_iff.1 hj
      exact List.pairwise_iff_getElem.1 hs i j hil hjl hij
    obtain ⟨e1, e2⟩ := hg m (by omega)
    rw [Lib.compactUpTo_succ, e1]
    cases hk : Lib.keeps d.toArray m with
    | true =>
      rw [if_pos rfl]
      have hnot : d.getD m [] ∉ Lib.compactUpTo d.toArray m := by
        intro hin
        obtain ⟨j, hj, ej⟩ := h1 _ hin
        obtain ⟨f1, f2⟩ := hg (m - 1) (by omega)
        have hne : d.getD m [] ≠ d.getD (m - 1) [] := by
          intro e
          have := Lib.keeps_neg (d := d.toArray) (m := m) (by omega) (by rw [e1, f1, e])
          rw [this] at hk; cases hk
        have hlast := hle (m - 1) m _ _ (by omega) f2 e2
        rcases Nat.lt_or_ge j (m - 1) with h | h
        · exact hne (List.le_antisymm (hle j (m - 1) _ _ h ej f2) hlast)
        · obtain rfl : j = m - 1 := by omega
          rw [f2] at ej
          exact hne (Option.some.inj ej).symm
      refine ⟨fun x hx => ?_, fun j x hj hx => ?_, ?_, ?_⟩
      · rcases List.mem_append.1 hx with hx | hx
        · obtain ⟨j, hj, e⟩ := h1 x hx
          exact ⟨j, by omega, e⟩
        · rw [List.mem_singleton.1 hx]
          exact ⟨m, by omega, e2⟩
      · rcases Nat.lt_or_ge j m with h | h
        · exact List.mem_append_left _ (h2 j x h hx)
        · obtain rfl : j = m := by omega
          rw [e2] at hx
          rw [← Option.some.inj hx]
          exact List.mem_append_right _ (.head _)
      · rw [List.nodup_append]
        refine ⟨h3, by simp, fun a ha b hb e => ?_⟩
        rw [List.mem_singleton.1 hb] at e
        exact hnot (e ▸ ha)
      · rw [List.pairwise_append]
        refine ⟨h4, List.pairwise_singleton _ _, fun a ha b hb => ?_⟩
        rw [List.mem_singleton.1 hb]
        obtain ⟨j, hj, e⟩ := h1 a ha
        exact hle j m _ _ hj e e2
    | false =>
      rw [if_neg (by simp), List.append_nil]
      refine ⟨fun x hx => ?_, fun j x hj hx => ?_, h3, h4⟩
      · obtain ⟨j, hj, e⟩ := h1 x hx
        exact ⟨j, by omega, e⟩
      · rcases Nat.lt_or_ge j m with h | h
        · exact h2 j x h hx
        · obtain rfl : j = m := by omega
          have hpos : 0 < j := by
            rcases Nat.eq_zero_or_pos j with e | e
            · subst e
              rw [Lib.keeps_lt_one _ 0 (by omega)] at hk; cases hk
            · exact e
          obtain ⟨f1, f2⟩ := hg (j - 1) (by omega)
          have heq : d.getD j [] = d.getD (j - 1) [] := by
            refine Classical.byContradiction fun hne => ?_
            have := Lib.keeps_pos (d := d.toArray) (m := j) (by rw [e1, f1]; exact hne)
            rw [this] at hk; cases hk
          rw [e2] at hx
          rw [← Option.some.inj hx, heq]
          exact h2 (j - 1) _ (by omega) f2
theorem compact_spec {d : List (List UInt8)} (hs : d.Pairwise (fun x y => x ≤ y)) : (∀ x, x ∈ Lib.compact d ↔ x ∈ d) ∧ (Lib.compact d).Nodup ∧ (Lib.compact d).Pairwise (fun x y => x ≤ y) := by
  obtain ⟨h1, h2, h3, h4⟩ := cu_spec hs d.length (Nat.le_refl _)
  refine ⟨fun x => ⟨fun hx => ?_, fun hx => ?_⟩, h3, h4⟩
  · obtain ⟨j, _, e⟩ := h1 x hx
    exact List.mem_of_getElem? e
  · obtain ⟨j, hj⟩ := List.mem_iff_getElem?.1 hx
    exact h2 j x (List.getElem?_eq_some_iff.1 hj).1 hj
/-- sorted and without doubles, whichever way -/
theorem compact_srt {a b : List (List UInt8)} (hb : b.Nodup) (h : ∀ x, x ∈ a ↔ x ∈ b) : Lib.compact (srt a) = srt b := by
  obtain ⟨h1, h2, h3⟩ := compact_spec (srt_sorted a)
  refine strict_eq (le := fun x y => x ≤ y) (fun _ _ => List.le_antisymm) h3 (srt_sorted b) h2 ?_ fun x => by rw [h1, srt_mem, srt_mem, h]
  exact (List.mergeSort_perm b leB).nodup_iff.2 hb
end Go.Mo
