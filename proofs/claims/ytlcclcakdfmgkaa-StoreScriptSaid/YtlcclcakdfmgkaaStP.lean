/- Plain: a ring of nodes, a map of them, lists of pairs. No program in sight. -/
import Derived.Test.YtlcclcakdfmgkaaNds
namespace Go.St
open Go.Eng
set_option linter.unusedVariables false
set_option linter.unusedSimpArgs false

abbrev BA := ByteArray
abbrev PR := List (BA × BA)
structure En where
  n : Nat
  key : BA
  val : BA
def nxO (f : NdT) (a : Nat) : Option Nat := (f a).bind (·.nx)
def prO (f : NdT) (a : Nat) : Option Nat := (f a).bind (·.pr)
def kvO (f : NdT) (a : Nat) : Option (BA × BA) := (f a).map fun x => (x.key, x.val)
def chain (f : NdT) : List Nat → Prop
  | [] => True
  | [_] => True
  | a :: b :: l => (nxO f a = some b ∧ prO f b = some a) ∧ chain f (b :: l)
theorem chain_append (f : NdT) : ∀ (A : List Nat) (a : Nat) (B : List Nat), chain f (A ++ a :: B) ↔ chain f (A ++ [a]) ∧ chain f (a :: B)
  | [], a, B => by simp [chain]
  | [x], a, B => by simp [chain]
  | x :: y :: A, a, B => by
    have := chain_append f (y :: A) a B
    simp only [List.cons_append, chain] at *
    rw [this]; simp only [and_assoc]
theorem chain_congr {f g : NdT} : ∀ (L : List Nat), (∀ k ∈ L.dropLast, nxO g k = nxO f k) → (∀ k ∈ L.tail, prO g k = prO f k) → chain f L → chain g L
  | [], _, _, _ => trivial
  | [_], _, _, _ => trivial
  | a :: b :: l, h1, h2, ⟨⟨h3, h4⟩, h5⟩ => ⟨⟨(h1 a (by simp)).trans h3, (h2 b (by simp)).trans h4⟩, chain_congr (b :: l) (fun k hk => h1 k (by rw [List.dropLast_cons_of_ne_nil (by simp)]; exact .tail _ hk)) (fun k hk => h2 k (.tail _ hk)) h5⟩
theorem nxO_nx {f : NdT} {b v : Nat} (h : (f b).isSome = true) : nxO (setNx f b v) b = some v := by
  obtain ⟨x, hx⟩ := Option.isSome_iff_exists.1 h
  simp [nxO, setNx, hx]
theorem nxO_nx' {f : NdT} {b v k : Nat} (h : k ≠ b) : nxO (setNx f b v) k = nxO f k := by simp [nxO, setNx, h]
theorem prO_nx {f : NdT} {b v k : Nat} : prO (setNx f b v) k = prO f k := by
  unfold prO setNx; split
  · cases f k <;> rfl
  · rfl
theorem prO_pr {f : NdT} {b v : Nat} (h : (f b).isSome = true) : prO (setPr f b v) b = some v := by
  obtain ⟨x, hx⟩ := Option.isSome_iff_exists.1 h
  simp [prO, setPr, hx]
theorem prO_pr' {f : NdT} {b v k : Nat} (h : k ≠ b) : prO (setPr f b v) k = prO f k := by simp [prO, setPr, h]
theorem nxO_pr {f : NdT} {b v k : Nat} : nxO (setPr f b v) k = nxO f k := by
  unfold nxO setPr; split
  · cases f k <;> rfl
  · rfl
theorem kvO_nx {f : NdT} {b v k : Nat} : kvO (setNx f b v) k = kvO f k := by
  unfold kvO setNx; split
  · cases f k <;> rfl
  · rfl
theorem kvO_pr {f : NdT} {b v k : Nat} : kvO (setPr f b v) k = kvO f k := by
  unfold kvO setPr; split
  · cases f k <;> rfl
  · rfl
theorem kvO_some {f : NdT} {k : Nat} {p : BA × BA} (h : kvO f k = some p) : (f k).isSome = true := by
  unfold kvO at h
  cases hf : f k with
  | none => rw [hf] at h; cases h
  | some x => rfl
def foutF (f : NdT) (a b : Nat) : NdT := setNx (setPr f b a) a b
def ffrontF (f : NdT) (r a p : Nat) : NdT := setPr (setNx (setPr (setNx f p r) p a) a p) r p

theorem chain_out {f : NdT} {r p : Nat} {us vs : List Nat} (h : chain f (r :: (us ++ p :: vs) ++ [r])) (hn : (r :: (us ++ p :: vs)).Nodup) (hs : ∀ k ∈ r :: (us ++ p :: vs), (f k).isSome = true) :
    ∃ a b, nxO f p = some b ∧ prO f p = some a ∧ (f a).isSome = true ∧ (f b).isSome = true ∧ chain (foutF f a b) (r :: (us ++ vs) ++ [r]) := by
  obtain ⟨A, a, hA⟩ : ∃ A a, r :: us = A ++ [a] := ⟨_, _, (List.dropLast_concat_getLast (by simp)).symm⟩
  obtain ⟨b, B, hB⟩ : ∃ b B, vs ++ [r] = b :: B := by cases vs <;> simp
  have e1 : r :: (us ++ p :: vs) ++ [r] = A ++ a :: (p :: b :: B) := by
    rw [show r :: (us ++ p :: vs) ++ [r] = (r :: us) ++ p :: (vs ++ [r]) by simp, hA, hB]; simp
  have e2 : r :: (us ++ vs) ++ [r] = A ++ a :: (b :: B) := by
    rw [show r :: (us ++ vs) ++ [r] = (r :: us) ++ (vs ++ [r]) by simp, hA, hB]; simp
  rw [e1, chain_append] at h
  obtain ⟨h1, ⟨h2, h3⟩, ⟨h4, h5⟩, h6⟩ := h
  have ha : a ∈ r :: us := by rw [hA]; simp
  have hb : b ∈ vs ++ [r] := by rw [hB]; simp
  have hn1 : (r :: us).Nodup := by
    refine List.Nodup.sublist ?_ hn
    exact (List.sublist_append_left us (p :: vs)).cons_cons r
  have hn2 : (vs ++ [r]).Nodup := by
    have : (r :: vs).Nodup := List.Nodup.sublist (((List.sublist_cons_self p vs).trans (List.sublist_append_right us _)).cons_cons r) hn
    simp only [List.nodup_cons] at this
    simp only [List.nodup_append, List.nodup_cons, List.mem_singleton]
    refine ⟨this.2, by simp, ?_⟩
    intro x hx y hy hxy
    subst hy; subst hxy
    exact this.1 hx
  simp only [List.nodup_cons, List.nodup_append, List.mem_append, List.mem_cons, not_or] at hn
  obtain ⟨⟨hru, hrp, hrv⟩, hu, ⟨hpv, hv⟩, hd⟩ := hn
  have hsa : (f a).isSome = true := hs a (by rcases List.mem_cons.1 ha with h | h <;> simp [h])
  have hsb : (f b).isSome = true := hs b (by rcases List.mem_append.1 hb with h | h <;> simp_all)
  refine ⟨a, b, h4, h3, hsa, hsb, ?_⟩
  rw [e2, chain_append]
  refine ⟨chain_congr _ (fun k hk => ?_) (fun k hk => ?_) h1, ⟨?_, ?_⟩, chain_congr _ (fun k hk => ?_) (fun k hk => ?_) h6⟩
  · rw [List.dropLast_concat] at hk
    have : k ≠ a := fun e => by
      subst e
      rw [hA, List.nodup_append] at hn1
      exact hn1.2.2 k hk k (by simp) rfl
    rw [foutF, nxO_nx' this, nxO_pr]
  · rw [← hA, List.tail_cons] at hk
    have : k ≠ b := fun e => by
      subst e
      simp only [List.mem_append, List.mem_singleton] at hb
      rcases hb with h | h
      · exact hd k hk k (.inr h) rfl
      · subst h; exact hru hk
    rw [foutF, prO_nx, prO_pr' this]
  · exact nxO_nx (by rw [setPr_some]; exact hsa)
  · rw [foutF, prO_nx]; exact prO_pr hsb
  · rw [← hB, List.dropLast_concat] at hk
    have : k ≠ a := fun e => by
      subst e
      simp only [List.mem_cons] at ha
      rcases ha with h | h
      · subst h; exact hrv hk
      · exact hd k h k (.inr hk) rfl
    rw [foutF, nxO_nx' this, nxO_pr]
  · rw [List.tail_cons] at hk
    have : k ≠ b := fun e => by
      subst e
      rw [hB] at hn2
      exact (List.nodup_cons.1 hn2).1 hk
    rw [foutF, prO_nx, prO_pr' this]
theorem chain_front {f : NdT} {r p : Nat} {xs : List Nat} (h : chain f (r :: xs ++ [r])) (hn : (r :: xs).Nodup) (hs : ∀ k ∈ r :: xs, (f k).isSome = true) (hp : p ∉ r :: xs) (hps : (f p).isSome = true) :
    ∃ a, prO f r = some a ∧ (f a).isSome = true ∧ chain (ffrontF f r a p) (r :: (xs ++ [p]) ++ [r]) := by
  obtain ⟨A, a, hA⟩ : ∃ A a, r :: xs = A ++ [a] := ⟨_, _, (List.dropLast_concat_getLast (by simp)).symm⟩
  have e1 : r :: xs ++ [r] = A ++ a :: [r] := by rw [hA]; simp
  have e2 : r :: (xs ++ [p]) ++ [r] = A ++ a :: [p, r] := by
    rw [show r :: (xs ++ [p]) ++ [r] = (r :: xs) ++ [p, r] by simp, hA]; simp
  rw [e1, chain_append] at h
  obtain ⟨h1, ⟨h2, h3⟩, _⟩ := h
  have ha : a ∈ r :: xs := by rw [hA]; simp
  have hpr : r ≠ p := fun e => hp (by simp [e])
  have hpa : a ≠ p := fun e => hp (e ▸ ha)
  have hsr := hs r (by simp)
  refine ⟨a, h3, hs a ha, ?_⟩
  rw [e2, chain_append]
  refine ⟨chain_congr _ (fun k hk => ?_) (fun k hk => ?_) h1, ⟨?_, ?_⟩, ⟨?_, ?_⟩, trivial⟩
  · rw [List.dropLast_concat] at hk
    have h4 : k ≠ a := fun e => by
      subst e
      rw [hA, List.nodup_append] at hn
      exact hn.2.2 k hk k (by simp) rfl
    have h5 : k ≠ p := fun e => hp (by rw [hA, ← e]; simp [hk])
    rw [ffrontF, nxO_pr, nxO_nx' h4, nxO_pr, nxO_nx' h5]
  · rw [← hA, List.tail_cons] at hk
    have h4 : k ≠ r := fun e => by subst e; exact (List.nodup_cons.1 hn).1 hk
    have h5 : k ≠ p := fun e => hp (by simp [← e, hk])
    rw [ffrontF, prO_pr' h4, prO_nx, prO_pr' h5, prO_nx]
  · rw [ffrontF, nxO_pr]
    exact nxO_nx (by rw [setPr_some, setNx_some]; exact hs a ha)
  · rw [ffrontF, prO_pr' (Ne.symm hpr), prO_nx]
    exact prO_pr (by rw [setNx_some]; exact hps)
  · rw [ffrontF, nxO_pr, nxO_nx' (Ne.symm hpa), nxO_pr]
    exact nxO_nx hps
  · rw [ffrontF]
    exact prO_pr (by rw [setNx_some, setPr_some, setNx_some]; exact hsr)

/-- the ring holds the entries E, least recent first -/
structure Ring (r : Nat) (f : NdT) (E : List En) : Prop where
  ch : chain f (r :: E.map (·.n) ++ [r])
  nd : (r :: E.map (·.n)).Nodup
  root : (f r).isSome = true
  kv : ∀ e ∈ E, kvO f e.n = some (e.key, e.val)
theorem Ring.some {r : Nat} {f : NdT} {E : List En} (h : Ring r f E) : ∀ k ∈ r :: E.map (·.n), (f k).isSome = true := fun k hk => by
  rcases List.mem_cons.1 hk with rfl | hk
  · exact h.root
  · obtain ⟨e, he, rfl⟩ := List.mem_map.1 hk
    exact kvO_some (h.kv e he)
theorem node_eq {f : NdT} {k a b : Nat} {u v : BA} (h1 : kvO f k = some (u, v)) (h2 : nxO f k = some b) (h3 : prO f k = some a) : f k = some ⟨u, v, some b, some a⟩ := by
  unfold kvO at h1; unfold nxO at h2; unfold prO at h3
  cases hf : f k with
  | none => rw [hf] at h1; cases h1
  | some x =>
    rw [hf] at h1 h2 h3
    obtain ⟨k', v', n', p'⟩ := x
    simp only [Option.map_some, Option.some.injEq, Prod.mk.injEq, Option.bind_some] at h1 h2 h3
    rw [h1.1, h1.2, h2, h3]
theorem Ring.out {r : Nat} {f : NdT} {A B : List En} {e : En} (h : Ring r f (A ++ e :: B)) :
    ∃ a b, f e.n = Option.some ⟨e.key, e.val, Option.some b, Option.some a⟩ ∧ (f a).isSome = true ∧ (f b).isSome = true ∧ Ring r (foutF f a b) (A ++ B) ∧ kvO (foutF f a b) e.n = Option.some (e.key, e.val) ∧ e.n ∉ r :: (A ++ B).map (·.n) := by
  have hch := h.ch
  have hnd := h.nd
  have hs := h.some
  rw [List.map_append, List.map_cons] at hch hnd hs
  obtain ⟨a, b, h1, h2, h3, h4, h5⟩ := chain_out hch hnd hs
  have hkv : ∀ k, kvO (foutF f a b) k = kvO f k := fun k => by rw [foutF, kvO_nx, kvO_pr]
  refine ⟨a, b, node_eq (h.kv e (by simp)) h1 h2, h3, h4, ⟨?_, ?_, ?_, fun x hx => ?_⟩, (hkv _).trans (h.kv e (by simp)), ?_⟩
  · rw [List.map_append]; exact h5
  · rw [List.map_append]
    exact List.Nodup.sublist (((List.sublist_cons_self _ _).append_left _).cons_cons r) hnd
  · rw [foutF, setNx_some, setPr_some]; exact h.root
  · rw [hkv]
    refine h.kv x ?_
    rcases List.mem_append.1 hx with h | h
    · exact List.mem_append.2 (.inl h)
    · exact List.mem_append.2 (.inr (.tail _ h))
  · rw [List.map_append]
    simp only [List.nodup_cons, List.nodup_append, List.mem_append, List.mem_cons, not_or] at hnd ⊢
    obtain ⟨⟨_, h6, _⟩, _, ⟨h7, _⟩, h8⟩ := hnd
    exact ⟨fun e => h6 e.symm, fun hx => h8 _ hx _ (.inl rfl) rfl, h7⟩
theorem Ring.front {r : Nat} {f : NdT} {E : List En} {e : En} (h : Ring r f E) (hn : e.n ∉ r :: E.map (·.n)) (hk : kvO f e.n = Option.some (e.key, e.val)) :
    ∃ a, prO f r = Option.some a ∧ (f a).isSome = true ∧ Ring r (ffrontF f r a e.n) (E ++ [e]) := by
  obtain ⟨a, h1, h2, h3⟩ := chain_front h.ch h.nd h.some hn (kvO_some hk)
  have hkv : ∀ k, kvO (ffrontF f r a e.n) k = kvO f k := fun k => by rw [ffrontF, kvO_pr, kvO_nx, kvO_pr, kvO_nx]
  refine ⟨a, h1, h2, ⟨?_, ?_, ?_, fun x hx => ?_⟩⟩
  · rw [List.map_append]; exact h3
  · rw [List.map_append]
    have hnd := h.nd
    simp only [List.nodup_cons, List.nodup_append, List.mem_append, List.mem_cons, not_or, List.map_cons, List.map_nil, List.mem_singleton] at hnd hn ⊢
    refine ⟨⟨hnd.1, fun e => hn.1 e.symm, by simp⟩, hnd.2, by simp, fun x hx y hy hxy => ?_⟩
    rcases hy with hy | hy
    · subst hy; subst hxy; exact hn.2 hx
    · cases hy
  · rw [ffrontF, setPr_some, setNx_some, setPr_some, setNx_some]; exact h.root
  · rw [hkv]
    rcases List.mem_append.1 hx with hx | hx
    · exact h.kv x hx
    · rw [List.mem_singleton] at hx; subst hx; exact hk

/-! the map -/
structure MapOK (m : MP) (E : List En) : Prop where
  nk : (m.map Prod.fst).Nodup
  mp : ∀ s v, mget m s = some v ↔ ∃ e ∈ E, e.key = s ∧ v = ptrV e.n
theorem mget_append : ∀ (m : MP) (k s : BA) (v : Value), mget m k = none → mget (m ++ [(k, v)]) s = if k = s then some v else mget m s
  | [], k, s, v, _ => by
    by_cases h : k = s <;> simp [mget, h]
  | p :: r, k, s, v, h => by
    have h1 : ¬ p.1 = k := fun e => by simp [mget, e] at h
    have h2 : mget r k = none := by simpa [mget, h1] using h
    have ih := mget_append r k s v h2
    simp only [List.cons_append, mget, ih]
    by_cases hp : p.1 = s
    · rw [if_pos hp, if_neg (fun e => h1 (by rw [hp, e])), if_pos hp]
    · rw [if_neg hp, if_neg hp]
theorem mget_none : ∀ (m : MP) (s : BA), s ∉ m.map Prod.fst → mget m s = none
  | [], _, _ => rfl
  | p :: r, s, h => by
    simp only [List.map_cons, List.mem_cons, not_or] at h
    rw [mget, if_neg (fun e => h.1 e.symm)]
    exact mget_none r s h.2
theorem mget_mdel : ∀ (m : MP) (k s : BA), (m.map Prod.fst).Nodup → mget (mdel m k) s = if k = s then none else mget m s
  | [], k, s, _ => by simp [mdel, mget]
  | p :: r, k, s, h => by
    simp only [List.map_cons, List.nodup_cons] at h
    have ih := mget_mdel r k s h.2
    unfold mdel
    by_cases h1 : p.1 = k
    · rw [if_pos h1]
      by_cases h2 : k = s
      · rw [if_pos h2]; exact mget_none r s (by rw [← h2, ← h1]; exact h.1)
      · rw [if_neg h2, mget, if_neg (fun e => h2 (by rw [← h1, e]))]
    · rw [if_neg h1, mget, mget, ih]
      by_cases h2 : k = s
      · rw [if_pos h2, if_pos h2, if_neg (fun e => h1 (by rw [e, h2]))]
      · rw [if_neg h2, if_neg h2]
theorem mdel_sub : ∀ (m : MP) (k : BA), (mdel m k).Sublist m
  | [], _ => .slnil
  | p :: r, k => by
    unfold mdel
    split
    · exact List.sublist_cons_self _ _
    · exact (mdel_sub r k).cons_cons p
theorem MapOK.same {m : MP} {E E' : List En} (h : MapOK m E) (he : ∀ e, e ∈ E ↔ e ∈ E') : MapOK m E' :=
  ⟨h.nk, fun s v => (h.mp s v).trans ⟨fun ⟨e, h1, h2⟩ => ⟨e, (he e).1 h1, h2⟩, fun ⟨e, h1, h2⟩ => ⟨e, (he e).2 h1, h2⟩⟩⟩
theorem key_inj {A B : List En} {e x : En} (hk : ((A ++ e :: B).map (·.key)).Nodup) (hx : x ∈ A ++ B) : x.key ≠ e.key := by
  simp only [List.map_append, List.map_cons, List.nodup_append, List.nodup_cons, List.mem_map, List.mem_cons] at hk
  obtain ⟨_, ⟨h1, _⟩, h2⟩ := hk
  intro h
  rcases List.mem_append.1 hx with hx | hx
  · exact h2 _ ⟨x, hx, rfl⟩ _ (.inl rfl) h
  · exact h1 ⟨x, hx, h⟩
theorem MapOK.del {m : MP} {A B : List En} {e : En} (h : MapOK m (A ++ e :: B)) (hk : ((A ++ e :: B).map (·.key)).Nodup) : MapOK (mdel m e.key) (A ++ B) := by
  refine ⟨List.Nodup.sublist ((mdel_sub m e.key).map _) h.nk, fun s v => ?_⟩
  rw [mget_mdel m e.key s h.nk]
  by_cases hs : e.key = s
  · rw [if_pos hs]
    refine ⟨fun h => (by cases h), fun ⟨x, hx, h1, _⟩ => absurd (h1.trans hs.symm) (key_inj hk hx)⟩
  · rw [if_neg hs, h.mp]
    refine ⟨fun ⟨x, hx, h1, h2⟩ => ⟨x, ?_, h1, h2⟩, fun ⟨x, hx, h1, h2⟩ => ⟨x, ?_, h1, h2⟩⟩
    · simp only [List.mem_append, List.mem_cons] at hx ⊢
      rcases hx with hx | hx | hx
      · exact .inl hx
      · subst hx; exact absurd h1 hs
      · exact .inr hx
    · simp only [List.mem_append, List.mem_cons] at hx ⊢
      rcases hx with hx | hx
      · exact .inl hx
      · exact .inr (.inr hx)
theorem MapOK.put {m : MP} {E : List En} {e : En} (h : MapOK m E) (hk : ∀ x ∈ E, x.key ≠ e.key) : mget m e.key = none ∧ MapOK (m ++ [(e.key, ptrV e.n)]) (E ++ [e]) := by
  have hno : mget m e.key = none := by
    cases hg : mget m e.key with
    | none => rfl
    | some v =>
      obtain ⟨x, hx, h1, _⟩ := (h.mp _ _).1 hg
      exact absurd h1 (hk x hx)
  refine ⟨hno, ?_, fun s v => ?_⟩
  · rw [List.map_append, List.nodup_append]
    refine ⟨h.nk, by simp, fun x hx y hy hxy => ?_⟩
    simp only [List.map_cons, List.map_nil, List.mem_singleton] at hy
    subst hy; subst hxy
    obtain ⟨p, hp, hpe⟩ := List.mem_map.1 hx
    have : mget m e.key ≠ none := by
      clear hno h
      induction m with
      | nil => cases hp
      | cons q r ih =>
        rw [mget]
        by_cases hq : q.1 = e.key
        · rw [if_pos hq]; simp
        · rw [if_neg hq]
          rcases List.mem_cons.1 hp with rfl | hp
          · exact absurd hpe hq
          · exact ih (List.mem_map.2 ⟨p, hp, hpe⟩) hp
    exact this hno
  · rw [mget_append m e.key s _ hno]
    by_cases hs : e.key = s
    · rw [if_pos hs]
      simp only [Option.some.injEq, List.mem_append, List.mem_singleton]
      refine ⟨fun hv => ⟨e, .inr rfl, hs, hv.symm⟩, fun ⟨x, hx, h1, h2⟩ => ?_⟩
      rcases hx with hx | rfl
      · exact absurd (h1.trans hs.symm) (hk x hx)
      · exact h2.symm
    · rw [if_neg hs, h.mp]
      simp only [List.mem_append, List.mem_singleton]
      refine ⟨fun ⟨x, hx, h1⟩ => ⟨x, .inl hx, h1⟩, fun ⟨x, hx, h1, h2⟩ => ?_⟩
      rcases hx with hx | rfl
      · exact ⟨x, hx, h1, h2⟩
      · exact absurd h1 hs

/-! pairs, least recent first -/
def kvs (E : List En) : PR := E.map fun e => (e.key, e.val)
def sumL : PR → Nat
  | [] => 0
  | p :: r => p.1.size + p.2.size + sumL r
def findK : PR → BA → Option BA
  | [], _ => none
  | p :: r, k => if p.1 = k then some p.2 else findK r k
def delK (L : PR) (k : BA) : PR := L.filter fun p => !decide (p.1 = k)
def getS (L : PR) (k : BA) : PR × BA × Int := match findK L k with
  | none => (L, ⟨#[]⟩, 12)
  | some v => (delK L k ++ [(k, v)], v, 0)
def dropS (L : PR) (k : BA) : PR × Int := match findK L k with
  | none => (L, 12)
  | some _ => (delK L k, 0)
def ev (room need : Nat) : PR → List BA × PR
  | [] => ([], [])
  | p :: r => if room < sumL (p :: r) + need then (p.1 :: (ev room need r).1, (ev room need r).2) else ([], p :: r)
def putS (room : Nat) (L : PR) (k v : BA) : PR × List BA × Int :=
  if room < k.size + v.size then (L, [], 16) else ((ev room (k.size + v.size) (delK L k)).2 ++ [(k, v)], (ev room (k.size + v.size) (delK L k)).1, 0)
theorem sumL_append : ∀ (a b : PR), sumL (a ++ b) = sumL a + sumL b
  | [], b => by simp [sumL]
  | p :: r, b => by simp only [List.cons_append, sumL, sumL_append r b]; omega
theorem sumL_reverse : ∀ (a : PR), sumL a.reverse = sumL a
  | [] => rfl
  | p :: r => by simp only [List.reverse_cons, sumL_append, sumL, sumL_reverse r]; omega
theorem kvs_append (a b : List En) : kvs (a ++ b) = kvs a ++ kvs b := List.map_append ..
theorem findK_none : ∀ (E : List En) (k : BA), (∀ e ∈ E, e.key ≠ k) → findK (kvs E) k = none ∧ delK (kvs E) k = kvs E
  | [], k, _ => ⟨rfl, rfl⟩
  | e :: E, k, h => by
    obtain ⟨h1, h2⟩ := findK_none E k fun x hx => h x (.tail _ hx)
    have h3 := h e (.head _)
    refine ⟨?_, ?_⟩
    · show (if e.key = k then _ else _) = none
      rw [if_neg h3]; exact h1
    · show List.filter _ ((e.key, e.val) :: kvs E) = _
      rw [List.filter_cons_of_pos (by simp [h3])]
      show _ :: delK (kvs E) k = _
      rw [h2]; rfl
theorem delK_append (a b : PR) (k : BA) : delK (a ++ b) k = delK a k ++ delK b k := List.filter_append ..
theorem findK_some {A B : List En} {e : En} (hk : ((A ++ e :: B).map (·.key)).Nodup) : findK (kvs (A ++ e :: B)) e.key = some e.val ∧ delK (kvs (A ++ e :: B)) e.key = kvs (A ++ B) := by
  have hne := fun x hx => key_inj (x := x) hk hx
  have hA := findK_none A e.key fun x hx => hne x (List.mem_append.2 (.inl hx))
  have hB := findK_none B e.key fun x hx => hne x (List.mem_append.2 (.inr hx))
  refine ⟨?_, ?_⟩
  · have hA2 : ∀ x ∈ A, x.key ≠ e.key := fun x hx => hne x (List.mem_append.2 (.inl hx))
    clear hA hB hne hk
    induction A with
    | nil => show (if e.key = e.key then _ else _) = _; rw [if_pos rfl]
    | cons a A ih =>
      show (if a.key = e.key then _ else _) = _
      rw [if_neg (hA2 a (.head _))]
      exact ih fun x hx => hA2 x (.tail _ hx)
  · rw [kvs_append, delK_append, hA.2, kvs_append]
    congr 1
    show List.filter _ ((e.key, e.val) :: kvs B) = _
    rw [List.filter_cons_of_neg (by simp)]
    exact hB.2
theorem isNone_eq {f g : NdT} {k : Nat} (h : (g k).isSome = (f k).isSome) (hf : f k = none) : g k = none := by
  rw [hf] at h
  cases hg : g k with
  | none => rfl
  | some x => rw [hg] at h; cases h
theorem foutF_some {f : NdT} {a b k : Nat} : (foutF f a b k).isSome = (f k).isSome := by rw [foutF, setNx_some, setPr_some]
theorem ffrontF_some {f : NdT} {r a p k : Nat} : (ffrontF f r a p k).isSome = (f k).isSome := by rw [ffrontF, setPr_some, setNx_some, setPr_some, setNx_some]
theorem chain_get {f : NdT} : ∀ {L : List Nat} {j a b : Nat}, chain f L → L[j]? = some a → L[j + 1]? = some b → nxO f a = some b ∧ prO f b = some a
  | [], j, a, b, _, h, _ => by simp at h
  | [x], j, a, b, _, _, h => by simp at h
  | x :: y :: l, 0, a, b, h, h1, h2 => by
    simp only [List.getElem?_cons_zero, List.getElem?_cons_succ, Option.some.injEq, Nat.zero_add] at h1 h2
    subst h1; subst h2; exact h.1
  | x :: y :: l, j + 1, a, b, h, h1, h2 => chain_get (L := y :: l) (j := j) h.2 (by simpa using h1) (by simpa using h2)
theorem Ring.head {r : Nat} {f : NdT} {e : En} {E : List En} (h : Ring r f (e :: E)) : ∃ x : Nd, f r = Option.some ⟨x.key, x.val, Option.some e.n, x.pr⟩ := by
  have h1 := (chain_get (j := 0) h.ch rfl rfl).1
  unfold nxO at h1
  cases hf : f r with
  | none => rw [hf] at h1; cases h1
  | some x =>
    rw [hf, Option.bind_some] at h1
    exact ⟨x, by rw [← h1]⟩
/-- the ring from the back: the pointer behind j entries -/
theorem Ring.back {r : Nat} {f : NdT} {E : List En} {j : Nat} {e : En} (h : Ring r f E) (he : E[j]? = Option.some e) : ∃ x nx, f e.n = Option.some ⟨e.key, x, nx, Option.some ((r :: E.map (·.n)).getD j r)⟩ ∧ e.n ≠ r := by
  have hj := (List.getElem?_eq_some_iff.1 he).1
  have h1 : prO f e.n = Option.some ((r :: E.map (·.n)).getD j r) := by
    refine (chain_get (j := j) h.ch ?_ ?_).2
    · rw [List.cons_append, List.getD_eq_getElem?_getD]
      cases j with
      | zero => rfl
      | succ j =>
        simp only [List.getElem?_cons_succ]
        rw [List.getElem?_append_left (by simp; omega), List.getElem?_eq_getElem (by simp; omega)]; rfl
    · simp only [List.cons_append, List.getElem?_cons_succ]
      rw [List.getElem?_append_left (by simp; omega)]
      simp [he]
  have h2 := h.kv e (List.mem_of_getElem? he)
  unfold kvO at h2; unfold prO at h1
  have h3 : e.n ≠ r := fun hh => (List.nodup_cons.1 h.nd).1 (by rw [← hh]; exact List.mem_map.2 ⟨e, List.mem_of_getElem? he, rfl⟩)
  cases hf : f e.n with
  | none => rw [hf] at h2; cases h2
  | some x =>
    rw [hf] at h2 h1
    simp only [Option.map_some, Option.some.injEq, Prod.mk.injEq, Option.bind_some] at h2 h1
    obtain ⟨xk, xv, xn, xp⟩ := x
    simp only at h1 h2
    exact ⟨xv, xn, by rw [h1, h2.1], h3⟩
theorem Ring.last {r : Nat} {f : NdT} {E : List En} (h : Ring r f E) : ∃ x : Nd, f r = Option.some ⟨x.key, x.val, x.nx, Option.some ((r :: E.map (·.n)).getD E.length r)⟩ := by
  have h1 : prO f r = Option.some ((r :: E.map (·.n)).getD E.length r) := by
    refine (chain_get (j := E.length) h.ch ?_ ?_).2
    · rw [List.getD_eq_getElem?_getD, List.getElem?_append_left (by simp), List.getElem?_eq_getElem (by simp)]; rfl
    · rw [List.getElem?_append_right (by simp)]; simp
  unfold prO at h1
  cases hf : f r with
  | none => rw [hf] at h1; cases h1
  | some x =>
    rw [hf, Option.bind_some] at h1
    exact ⟨x, by rw [← h1]⟩
theorem Ring.ptr {r : Nat} {f : NdT} {E : List En} (h : Ring r f E) (j : Nat) : (f ((r :: E.map (·.n)).getD j r)).isSome = true := by
  rw [List.getD_eq_getElem?_getD]
  cases hg : (r :: E.map (·.n))[j]? with
  | none => exact h.root
  | some k => exact h.some k (List.mem_of_getElem? hg)
/-- the whole store's state -/
structure SOK (B0 room r : Nat) (f : NdT) (m : MP) (E : List En) : Prop where
  ring : Ring r f E
  map : MapOK m E
  ks : (E.map (·.key)).Nodup
  sum : sumL (kvs E) ≤ room
  low : ∀ k, k < B0 → f k = none
end Go.St
