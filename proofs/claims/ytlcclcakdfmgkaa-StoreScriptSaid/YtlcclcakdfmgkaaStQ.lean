/- Plain: what drop, get and put do to the store's state. -/
import Derived.Test.YtlcclcakdfmgkaaStP
namespace Go.St
open Go.Eng
set_option linter.unusedVariables false
set_option linter.unusedSimpArgs false

theorem find_split : ∀ (E : List En) (k : BA), (∃ A e B, E = A ++ e :: B ∧ e.key = k) ∨ ∀ e ∈ E, e.key ≠ k
  | [], k => .inr fun e he => (by cases he)
  | x :: E, k => by
    by_cases hx : x.key = k
    · exact .inl ⟨[], x, E, rfl, hx⟩
    · rcases find_split E k with ⟨A, e, B, rfl, h⟩ | h
      · exact .inl ⟨x :: A, e, B, rfl, h⟩
      · refine .inr fun e he => ?_
        rcases List.mem_cons.1 he with rfl | he
        · exact hx
        · exact h e he
theorem root_eq {f : NdT} {r a : Nat} (h : prO f r = some a) : ∃ x : Nd, f r = some ⟨x.key, x.val, x.nx, some a⟩ := by
  unfold prO at h
  cases hf : f r with
  | none => rw [hf] at h; cases h
  | some x =>
    rw [hf, Option.bind_some] at h
    exact ⟨x, by rw [← h]⟩
theorem keys_split {A B : List En} {e : En} (h : ((A ++ e :: B).map (·.key)).Nodup) : ((A ++ B).map (·.key)).Nodup := by
  rw [List.map_append, List.map_cons] at h
  rw [List.map_append]
  exact List.Nodup.sublist ((List.sublist_cons_self _ _).append_left _) h
theorem sum_split (A B : List En) (e : En) : sumL (kvs (A ++ e :: B)) = sumL (kvs (A ++ B)) + (e.key.size + e.val.size) := by
  rw [kvs_append, kvs_append, sumL_append, sumL_append]
  show _ + (e.key.size + e.val.size + sumL (kvs B)) = _
  omega
theorem SOK.get_in {B0 room r : Nat} {f : NdT} {m : MP} {A B : List En} {e : En} (h : SOK B0 room r f m (A ++ e :: B)) : mget m e.key = some (.pointer (some ⟨e.n, 0, none⟩)) := (h.map.mp _ _).2 ⟨e, by simp, rfl, rfl⟩
theorem SOK.get_no {B0 room r : Nat} {f : NdT} {m : MP} {E : List En} {k : BA} (h : SOK B0 room r f m E) (hk : ∀ e ∈ E, e.key ≠ k) : mget m k = none := by
  cases hg : mget m k with
  | none => rfl
  | some v =>
    obtain ⟨e, he, h1, _⟩ := (h.map.mp _ _).1 hg
    exact absurd h1 (hk e he)
theorem SOK.drop {B0 room r : Nat} {f : NdT} {m : MP} {A B : List En} {e : En} (h : SOK B0 room r f m (A ++ e :: B)) :
    ∃ a b, f e.n = some ⟨e.key, e.val, some b, some a⟩ ∧ (f a).isSome = true ∧ (f b).isSome = true ∧ SOK B0 room r (foutF f a b) (mdel m e.key) (A ++ B) := by
  obtain ⟨a, b, h1, h2, h3, h4, h5, h6⟩ := h.ring.out
  refine ⟨a, b, h1, h2, h3, h4, h.map.del h.ks, keys_split h.ks, ?_, fun k hk => isNone_eq foutF_some (h.low k hk)⟩
  have := h.sum
  rw [sum_split] at this
  omega
theorem SOK.get {B0 room r : Nat} {f : NdT} {m : MP} {A B : List En} {e : En} (h : SOK B0 room r f m (A ++ e :: B)) :
    ∃ a b, f e.n = some ⟨e.key, e.val, some b, some a⟩ ∧ (f a).isSome = true ∧ (f b).isSome = true ∧ ∃ (c : Nat) (x : Nd), foutF f a b r = some ⟨x.key, x.val, x.nx, some c⟩ ∧ (foutF f a b c).isSome = true ∧ (foutF f a b e.n).isSome = true ∧
      SOK B0 room r (ffrontF (foutF f a b) r c e.n) m (A ++ B ++ [e]) := by
  obtain ⟨a, b, h1, h2, h3, h4, h5, h6⟩ := h.ring.out
  obtain ⟨c, h7, h8, h9⟩ := h4.front h6 h5
  obtain ⟨x, hx⟩ := root_eq h7
  refine ⟨a, b, h1, h2, h3, c, x, hx, h8, kvO_some h5, h9, h.map.same fun y => ?_, ?_, ?_, fun k hk => isNone_eq (ffrontF_some.trans foutF_some) (h.low k hk)⟩
  · simp only [List.mem_append, List.mem_cons, List.not_mem_nil, or_false]
    constructor
    · rintro (h | h | h)
      · exact .inl (.inl h)
      · exact .inr h
      · exact .inl (.inr h)
    · rintro ((h | h) | h)
      · exact .inl h
      · exact .inr (.inr h)
      · exact .inr (.inl h)
  · rw [List.map_append, List.nodup_append]
    refine ⟨keys_split h.ks, by simp, fun y hy z hz hyz => ?_⟩
    simp only [List.map_cons, List.map_nil, List.mem_singleton] at hz
    obtain ⟨t, ht, rfl⟩ := List.mem_map.1 hy
    exact key_inj h.ks ht (hyz.trans hz)
  · have := h.sum
    rw [sum_split] at this
    rw [kvs_append, sumL_append]
    show _ + (e.key.size + e.val.size + 0) ≤ _
    omega
theorem Ring.fresh {r n : Nat} {f : NdT} {x : Nd} {E : List En} (h : Ring r f E) (hn : f n = none) : Ring r (fset f n x) E ∧ n ∉ r :: E.map (·.n) := by
  have hne : ∀ k ∈ r :: E.map (·.n), k ≠ n := fun k hk e => by
    subst e
    have := h.some k hk
    rw [hn] at this; cases this
  have hf : ∀ k ∈ r :: E.map (·.n), fset f n x k = f k := fun k hk => fset_other (hne k hk)
  refine ⟨⟨chain_congr _ (fun k hk => ?_) (fun k hk => ?_) h.ch, h.nd, ?_, fun e he => ?_⟩, fun hk => hne n hk rfl⟩
  · rw [List.dropLast_concat] at hk
    unfold nxO; rw [hf k hk]
  · have hk' : k ∈ r :: E.map (·.n) := by
      rw [List.cons_append, List.tail_cons] at hk
      rcases List.mem_append.1 hk with hk | hk
      · exact .tail _ hk
      · rw [List.mem_singleton] at hk; subst hk; exact .head _
    unfold prO; rw [hf k hk']
  · rw [hf r (.head _)]; exact h.root
  · have := h.kv e he
    unfold kvO at this ⊢
    rw [hf e.n (.tail _ (List.mem_map.2 ⟨e, he, rfl⟩))]; exact this
theorem SOK.put {B0 room r n : Nat} {f : NdT} {m : MP} {E : List En} {k v : BA} (h : SOK B0 room r f m E) (hk : ∀ e ∈ E, e.key ≠ k) (hn : f n = none) (hb : B0 ≤ n) (hs : sumL (kvs E) + (k.size + v.size) ≤ room) :
    mget m k = none ∧ ∃ (c : Nat) (x : Nd), fset f n ⟨k, v, none, none⟩ r = some ⟨x.key, x.val, x.nx, some c⟩ ∧ (fset f n ⟨k, v, none, none⟩ c).isSome = true ∧ (fset f n ⟨k, v, none, none⟩ n).isSome = true ∧
      SOK B0 room r (ffrontF (fset f n ⟨k, v, none, none⟩) r c n) (m ++ [(k, .pointer (some ⟨n, 0, none⟩))]) (E ++ [⟨n, k, v⟩]) := by
  obtain ⟨h1, h2⟩ := h.ring.fresh (x := ⟨k, v, none, none⟩) hn
  obtain ⟨c, h7, h8, h9⟩ := h1.front (e := ⟨n, k, v⟩) h2 (by simp [kvO, fset_same])
  obtain ⟨x, hx⟩ := root_eq h7
  obtain ⟨h10, h11⟩ := h.map.put (e := ⟨n, k, v⟩) hk
  refine ⟨h10, c, x, hx, h8, by simp [fset_same], h9, h11, ?_, ?_, fun j hj => isNone_eq ffrontF_some (by rw [fset_other (by omega)]; exact h.low j hj)⟩
  · rw [List.map_append, List.nodup_append]
    refine ⟨h.ks, by simp, fun y hy z hz hyz => ?_⟩
    simp only [List.map_cons, List.map_nil, List.mem_singleton] at hz
    obtain ⟨t, ht, rfl⟩ := List.mem_map.1 hy
    exact hk t ht (hyz.trans hz)
  · rw [kvs_append, sumL_append]
    show _ + (k.size + v.size + 0) ≤ _
    omega
end Go.St
