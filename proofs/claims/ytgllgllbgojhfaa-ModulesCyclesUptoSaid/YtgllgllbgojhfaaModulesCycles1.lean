/- Texts of the proof of ModulesCycles, part 1: rules of a calculus for walking, plain laws, and walks of the functions that the law reaches. No condition. -/
import Derived.WalkKit
import Derived.Deep.Quiet
import Derived.ProofKit
import Derived.OpenShut
import Derived.LoopN
import Derived.CallsIn
import Derived.OrdersIn
import Derived.LoopNIn
import Derived.TacticsIn
import Derived.RangeFuncLeaves
import Derived.Maps.AppendAt
import Derived.WideKeyArgs
import Derived.ChangeArms
import Derived.DataReads
import Derived.Laws.MakeOwn
import Derived.WalkSpells
import Derived.Laws.Slices
import Derived.Laws.Small
import Derived.Sort.Grow
set_option linter.unusedVariables false
set_option linter.unusedSimpArgs false
set_option linter.unusedSectionVars false
/- Plain: cycles of imports: the least of them by length and then by letters; a search in order finds it, and so does the best of all. No program in sight. No condition. -/
namespace Go.Mc
section
variable {α : Type} [DecidableEq α]
theorem nodup_le2 {α : Type} : ∀ {l m : List α}, l.Nodup → (∀ x ∈ l, x ∈ m) → l.length ≤ m.length
  | [], _, _, _ => by simp
  | x :: r, m, hn, hs => by
    have hx := hs x (.head _)
    obtain ⟨m1, m2, rfl⟩ := List.append_of_mem hx
    rw [List.nodup_cons] at hn
    have := nodup_le2 (l := r) (m := m1 ++ m2) hn.2 (fun y hy => by
      have h1 := hs y (.tail _ hy)
      have h2 : y ≠ x := fun e => hn.1 (e ▸ hy)
      simp at h1 ⊢
      rcases h1 with h1 | h1 | h1
      · exact .inl h1
      · exact absurd h1 h2
      · exact .inr h1)
    simp at this ⊢
    omega
/-- a strict total order -/
structure Tot (lt : α → α → Prop) : Prop where
  irr : ∀ a, ¬ lt a a
  trn : ∀ a b c, lt a b → lt b c → lt a c
  tri : ∀ a b, lt a b ∨ a = b ∨ lt b a
variable {lt : α → α → Prop}
def lexL (lt : α → α → Prop) : List α → List α → Prop
  | a :: r, b :: s => lt a b ∨ (a = b ∧ lexL lt r s)
  | _, _ => False
theorem lexL_tot (T : Tot lt) : ∀ {c d : List α}, c.length = d.length → lexL lt c d ∨ c = d ∨ lexL lt d c
  | [], [], _ => .inr (.inl rfl)
  | [], _ :: _, h => by simp at h
  | _ :: _, [], h => by simp at h
  | a :: r, b :: s, h => by
    rcases T.tri a b with h1 | rfl | h1
    · exact .inl (.inl h1)
    · rcases lexL_tot T (c := r) (d := s) (by simpa using h) with h2 | rfl | h2
      · exact .inl (.inr ⟨rfl, h2⟩)
      · exact .inr (.inl rfl)
      · exact .inr (.inr (.inr ⟨rfl, h2⟩))
    · exact .inr (.inr (.inl h1))
theorem lexL_irr (T : Tot lt) : ∀ l : List α, ¬ lexL lt l l
  | [], h => h
  | a :: r, h => h.elim (T.irr a) fun h => lexL_irr T r h.2
theorem lexL_pre (T : Tot lt) : ∀ {w x y : List α} {a b : α}, lexL lt (w ++ a :: x) (w ++ b :: y) → lt a b ∨ a = b
  | [], _, _, _, _, h => h.imp id And.left
  | c :: w, _, _, _, _, h => by
    rcases h with h | ⟨_, h⟩
    · exact absurd h (T.irr c)
    · exact lexL_pre T h
def better (lt : α → α → Prop) (c d : List α) : Prop := c.length < d.length ∨ (c.length = d.length ∧ lexL lt c d)
theorem better_irr (T : Tot lt) (l : List α) : ¬ better lt l l := fun h => h.elim (fun h => by omega) fun h => lexL_irr T l h.2
theorem better_tot (T : Tot lt) (c d : List α) : better lt c d ∨ c = d ∨ better lt d c := by
  rcases Nat.lt_trichotomy c.length d.length with h | h | h
  · exact .inl (.inl h)
  · rcases lexL_tot T h with h1 | h1 | h1
    · exact .inl (.inr ⟨h, h1⟩)
    · exact .inr (.inl h1)
    · exact .inr (.inr (.inr ⟨h.symm, h1⟩))
  · exact .inr (.inr (.inl h))
/-- the least of some lists, if there is one -/
def LeastIn (lt : α → α → Prop) (S : List α → Prop) : Option (List α) → Prop
  | none => ∀ c, ¬ S c
  | some c => S c ∧ ∀ d, S d → ¬ lexL lt d c
theorem LeastIn.congr {S S' : List α → Prop} (h : ∀ c, S c ↔ S' c) : ∀ {r : Option (List α)}, LeastIn lt S r → LeastIn lt S' r
  | none, k => fun c hc => k c ((h c).2 hc)
  | some c, k => ⟨(h c).1 k.1, fun d hd => k.2 d ((h d).2 hd)⟩
/-- a search in order of the next letter -/
theorem find_least (T : Tot lt) {S : List α → Prop} {way : List α} {f : α → Option (List α)} : ∀ {next : List α}, next.Pairwise (fun a b => ¬ lt b a) → (∀ m ∈ next, LeastIn lt (fun c => S c ∧ (way ++ [m]) <+: c) (f m)) →
    LeastIn lt (fun c => S c ∧ ∃ m ∈ next, (way ++ [m]) <+: c) (next.findSome? f)
  | [], _, _ => fun c ⟨_, m, hm, _⟩ => by cases hm
  | m :: r, hp, hf => by
    rw [List.pairwise_cons] at hp
    have h1 := hf m (.head _)
    have ih := find_least T hp.2 fun k hk => hf k (.tail _ hk)
    rw [List.findSome?_cons]
    cases hm : f m with
    | none =>
      rw [hm] at h1
      refine ih.congr fun c => ⟨fun ⟨a, k, hk, b⟩ => ⟨a, k, .tail _ hk, b⟩, fun ⟨a, k, hk, b⟩ => ?_⟩
      rcases List.mem_cons.1 hk with rfl | hk
      · exact absurd ⟨a, b⟩ (h1 c)
      · exact ⟨a, k, hk, b⟩
    | some c =>
      rw [hm] at h1
      obtain ⟨⟨h2, h3⟩, h4⟩ := h1
      refine ⟨⟨h2, m, .head _, h3⟩, fun d ⟨hd, k, hk, hkd⟩ hlt => ?_⟩
      rcases List.mem_cons.1 hk with rfl | hk
      · exact h4 d ⟨hd, hkd⟩ hlt
      · obtain ⟨x, rfl⟩ := h3
        obtain ⟨y, rfl⟩ := hkd
        rw [List.append_assoc, List.append_assoc] at hlt
        rcases lexL_pre T hlt with h | rfl
        · exact hp.1 k hk h
        · exact h4 _ ⟨hd, y, rfl⟩ (by rw [List.append_assoc, List.append_assoc]; exact hlt)
variable {names : List α} {imp : α → List α}
/-- each imports the next one -/
def Chn (imp : α → List α) : List α → Prop
  | [] => True
  | [_] => True
  | a :: b :: r => b ∈ imp a ∧ Chn imp (b :: r)
theorem Chn.app : ∀ {w x : List α} {a b : α}, Chn imp (w ++ [a]) → Chn imp (b :: x) → b ∈ imp a → Chn imp (w ++ a :: b :: x)
  | [], _, _, _, _, h2, h3 => ⟨h3, h2⟩
  | [c], _, _, _, h1, h2, h3 => ⟨h1.1, h3, h2⟩
  | c :: d :: w, x, a, b, h1, h2, h3 => ⟨h1.1, Chn.app (w := d :: w) h1.2 h2 h3⟩
theorem Chn.left : ∀ {w x : List α}, Chn imp (w ++ x) → Chn imp w
  | [], _, _ => trivial
  | [_], _, _ => trivial
  | c :: d :: w, x, h => ⟨h.1, Chn.left (w := d :: w) h.2⟩
theorem Chn.right : ∀ {w x : List α}, Chn imp (w ++ x) → Chn imp x
  | [], _, h => h
  | [c], [], _ => trivial
  | [c], _ :: _, h => h.2
  | c :: d :: w, x, h => Chn.right (w := d :: w) h.2
theorem Chn.mid {w x : List α} {a b : α} (h : Chn imp (w ++ a :: b :: x)) : b ∈ imp a := (Chn.right h).1
/-- the beginning of a cycle -/
structure Way (names : List α) (imp : α → List α) (lt : α → α → Prop) (h : α) (t : List α) : Prop where
  nod : (h :: t).Nodup
  les : ∀ m ∈ t, lt h m
  chn : Chn imp (h :: t)
  inn : ∀ m ∈ h :: t, m ∈ names
def lastOf (h : α) (t : List α) : α := (h :: t).getLast (by simp)
theorem lastOf_snoc (h : α) (t : List α) (m : α) : lastOf h (t ++ [m]) = m := by
  show ((h :: t) ++ [m]).getLast _ = m
  exact List.getLast_concat
theorem lastOf_eq (h : α) (t : List α) : ∃ w, h :: t = w ++ [lastOf h t] := ⟨(h :: t).dropLast, by unfold lastOf; exact (List.dropLast_concat_getLast (by simp)).symm⟩
theorem Way.one {h : α} (hn : h ∈ names) : Way names imp lt h [] := ⟨by simp, (fun m hm => by cases hm), trivial, (fun m hm => by rw [List.mem_singleton.1 hm]; exact hn)⟩
theorem Way.snoc {h m : α} {t : List α} (hw : Way names imp lt h t) (h1 : m ∈ imp (lastOf h t)) (h2 : lt h m) (h3 : m ∉ h :: t) (hn : m ∈ names) : Way names imp lt h (t ++ [m]) := by
  refine ⟨?_, fun k hk => ?_, ?_, fun k hk => ?_⟩
  · rw [← List.cons_append, List.nodup_append]
    exact ⟨hw.nod, by simp, fun a ha b hb e => h3 (by rw [← List.mem_singleton.1 hb, ← e]; exact ha)⟩
  · rcases List.mem_append.1 hk with hk | hk
    · exact hw.les k hk
    · rw [List.mem_singleton.1 hk]; exact h2
  · obtain ⟨w, e⟩ := lastOf_eq h t
    rw [← List.cons_append]
    have hc := hw.chn
    rw [e] at hc ⊢
    rw [List.append_assoc]
    exact Chn.app hc (b := m) (x := []) trivial h1
  · rw [← List.cons_append] at hk
    rcases List.mem_append.1 hk with hk | hk
    · exact hw.inn k hk
    · rw [List.mem_singleton.1 hk]; exact hn
/-- a cycle, from its least module on -/
def Cyc (names : List α) (imp : α → List α) (lt : α → α → Prop) (c : List α) : Prop := ∃ h t, c = h :: t ∧ Way names imp lt h t ∧ h ∈ imp (lastOf h t)
theorem Cyc.next {h m : α} {t x : List α} (hc : Cyc names imp lt (h :: t ++ m :: x)) : m ∈ imp (lastOf h t) ∧ lt h m ∧ m ∉ h :: t := by
  obtain ⟨h', t', e, hw, _⟩ := hc
  have e : h :: (t ++ m :: x) = h' :: t' := e
  obtain ⟨rfl, rfl⟩ := List.cons.inj e
  refine ⟨?_, hw.les m (by simp), fun hm => ?_⟩
  · have := hw.chn
    rw [← List.cons_append] at this
    obtain ⟨w, e⟩ := lastOf_eq h t
    rw [e, List.append_assoc] at this
    exact Chn.mid this
  · have := hw.nod
    rw [← List.cons_append, List.nodup_append] at this
    exact this.2.2 m hm m (.head _) rfl
theorem Cyc.len {c : List α} (hc : Cyc names imp lt c) : 0 < c.length ∧ c.length ≤ names.length := by
  obtain ⟨h, t, rfl, hw, _⟩ := hc
  exact ⟨by simp, nodup_le2 hw.nod hw.inn⟩
/-- the modules at a number of steps -/
theorem here_of {he : Nat → List α} {frm : α} (h0 : frm ∈ he 0) (hs : ∀ k s x, s ∈ he k → x ∈ imp s → x ∈ he (k + 1)) : ∀ {x : List α} {k : Nat} {a b : α}, a ∈ he k → Chn imp (a :: x) → b ∈ imp (lastOf a x) → b ∈ he (k + x.length + 1)
  | [], k, a, b, ha, _, hb => hs k a b ha hb
  | c :: x, k, a, b, ha, hc, hb => by
    have := here_of h0 hs (k := k + 1) (hs k a c ha hc.1) hc.2 (b := b) (by unfold lastOf at hb ⊢; simpa using hb)
    rw [show k + (c :: x).length + 1 = k + 1 + x.length + 1 by simp; omega]
    exact this
/-! the program's search -/
def walkS (lt : α → α → Prop) [∀ a b, Decidable (lt a b)] (nxt : α → List α) (reach : α → α → Nat → Bool) (size : Nat) : Nat → List α → Option (List α)
  | 0, way => match way with
    | [] => none
    | h :: t => if h ∈ nxt (lastOf h t) then some way else none
  | f + 1, way => match way with
    | [] => none
    | h :: t => if reach (lastOf h t) h (f + 2) = false then none
      else (nxt (lastOf h t)).findSome? fun m => if ¬ lt h m ∨ m ∈ way then none else walkS lt nxt reach size f (way ++ [m])
def stepW (lt : α → α → Prop) [∀ a b, Decidable (lt a b)] (nxt : α → List α) (reach : α → α → Nat → Bool) (size f : Nat) (h : α) (t : List α) (m : α) : Option (List α) := if ¬ lt h m ∨ m ∈ h :: t then none else walkS lt nxt reach size f (h :: t ++ [m])
section
variable [∀ a b, Decidable (lt a b)] {nxt : α → List α} {reach : α → α → Nat → Bool} {size f : Nat} {h m : α} {t : List α}
theorem walkS_yes (hh : h ∈ nxt (lastOf h t)) : walkS lt nxt reach size 0 (h :: t) = some (h :: t) := by simp only [walkS]; rw [if_pos hh]
theorem walkS_no (hh : ¬ h ∈ nxt (lastOf h t)) : walkS lt nxt reach size 0 (h :: t) = none := by simp only [walkS]; rw [if_neg hh]
theorem walkS_cut (hr : reach (lastOf h t) h (f + 2) = false) : walkS lt nxt reach size (f + 1) (h :: t) = none := by simp only [walkS]; rw [if_pos hr]
theorem walkS_go (hr : reach (lastOf h t) h (f + 2) = true) : walkS lt nxt reach size (f + 1) (h :: t) = (nxt (lastOf h t)).findSome? (stepW lt nxt reach size f h t) := by
  simp only [walkS]
  rw [if_neg (by simp [hr])]
  rfl
theorem stepW_skip (hk : ¬ lt h m ∨ m ∈ h :: t) : stepW lt nxt reach size f h t m = none := by unfold stepW; rw [if_pos hk]
theorem stepW_go (h1 : lt h m) (h2 : m ∉ h :: t) : stepW lt nxt reach size f h t m = walkS lt nxt reach size f (h :: t ++ [m]) := by unfold stepW; rw [if_neg (fun hk => hk.elim (fun k => k h1) h2)]
end
theorem walk_least (T : Tot lt) [∀ a b, Decidable (lt a b)] {nxt : α → List α} {reach : α → α → Nat → Bool} (hnp : ∀ a ∈ names, (nxt a).Pairwise (fun a b => ¬ lt b a)) (hnm : ∀ a ∈ names, ∀ m, m ∈ nxt a ↔ m ∈ imp a)
    (hin : ∀ a ∈ names, ∀ m ∈ imp a, m ∈ names) (hre : ∀ a b x, a ∈ names → Chn imp (a :: x) → b ∈ imp (lastOf a x) → reach a b (x.length + 1) = true) (size : Nat) :
    ∀ (f : Nat) (h : α) (t : List α), Way names imp lt h t → f + (t.length + 1) = size → LeastIn lt (fun c => (Cyc names imp lt c ∧ c.length = size) ∧ (h :: t) <+: c) (walkS lt nxt reach size f (h :: t))
  | 0, h, t, hw, hs => by
    have hl : lastOf h t ∈ names := hw.inn _ (by unfold lastOf; exact List.getLast_mem _)
    have hone : ∀ c : List α, c.length = size → (h :: t) <+: c → c = h :: t := fun c hc ⟨x, hx⟩ => by
      subst hx
      simp at hc
      have : x = [] := List.eq_nil_of_length_eq_zero (by omega)
      rw [this, List.append_nil]
    simp only [walkS]
    by_cases hh : h ∈ nxt (lastOf h t)
    · rw [if_pos hh]
      refine ⟨⟨⟨⟨h, t, rfl, hw, (hnm _ hl _).1 hh⟩, by simp; omega⟩, List.prefix_rfl⟩, fun d ⟨⟨_, hd⟩, hp⟩ hlt => ?_⟩
      rw [hone d hd hp] at hlt
      have : ∀ l : List α, ¬ lexL lt l l := fun l => by
        induction l with
        | nil => exact fun h => h
        | cons a r ih => exact fun h => h.elim (T.irr a) fun h => ih h.2
      exact this _ hlt
    · rw [if_neg hh]
      intro c ⟨⟨⟨h', t', e, hw', hc⟩, hd⟩, hp⟩
      have e2 := hone c hd hp
      rw [e2] at e
      obtain ⟨rfl, rfl⟩ := List.cons.inj e
      exact hh ((hnm _ hl _).2 hc)
  | f + 1, h, t, hw, hs => by
    have hl : lastOf h t ∈ names := hw.inn _ (by unfold lastOf; exact List.getLast_mem _)
    have hnx : ∀ c : List α, Cyc names imp lt c → c.length = size → (h :: t) <+: c → ∃ m x, c = h :: t ++ m :: x ∧ x.length = f := fun c hc hcl ⟨x, hx⟩ => by
      subst hx
      cases x with
      | nil => simp at hcl; omega
      | cons m x => exact ⟨m, x, rfl, by simp at hcl; omega⟩
    simp only [walkS]
    by_cases hr : reach (lastOf h t) h (f + 2) = false
    · rw [if_pos hr]
      intro c ⟨⟨hc, hcl⟩, hp⟩
      obtain ⟨m, x, rfl, hx⟩ := hnx c hc hcl hp
      obtain ⟨h', t', e, hw', hcy⟩ := hc
      have e : h :: (t ++ m :: x) = h' :: t' := e
      obtain ⟨rfl, rfl⟩ := List.cons.inj e
      have hch := hw'.chn
      rw [← List.cons_append] at hch
      obtain ⟨w, e⟩ := lastOf_eq h t
      rw [e, List.append_assoc] at hch
      have h1 := hre (lastOf h t) h (m :: x) hl (Chn.right hch) (by
        have : lastOf h (t ++ m :: x) = lastOf (lastOf h t) (m :: x) := by
          unfold lastOf
          show ((h :: t) ++ m :: x).getLast _ = _
          rw [List.getLast_append_right (by simp)]
          exact (List.getLast_cons (by simp)).symm
        rw [← this]
        exact hcy)
      rw [show (m :: x).length + 1 = f + 2 by simp; omega, hr] at h1
      cases h1
    · rw [if_neg hr]
      refine (find_least T (S := fun c => (Cyc names imp lt c ∧ c.length = size) ∧ (h :: t) <+: c) (way := h :: t) (hnp _ hl) fun m hm => ?_).congr fun c => ⟨And.left, fun hc => ⟨hc, ?_⟩⟩
      · have hmi := (hnm _ hl m).1 hm
        by_cases hk : ¬ lt h m ∨ m ∈ h :: t
        · rw [if_pos hk]
          intro c ⟨⟨⟨hc, _⟩, _⟩, ⟨x, hx⟩⟩
          subst hx
          rw [List.append_assoc] at hc
          obtain ⟨h1, h2, h3⟩ := hc.next
          rcases hk with hk | hk
          · exact hk h2
          · exact h3 hk
        · rw [if_neg hk]
          have hk1 : lt h m := Decidable.byContradiction fun h => hk (.inl h)
          have hk2 : m ∉ h :: t := fun h => hk (.inr h)
          refine (walk_least T hnp hnm hin hre size f h (t ++ [m]) (hw.snoc hmi hk1 hk2 (hin _ hl _ hmi)) (by simp; omega)).congr fun c => ⟨fun ⟨a, b⟩ => ⟨⟨a, ?_⟩, b⟩, fun ⟨⟨a, _⟩, b⟩ => ⟨a, b⟩⟩
          obtain ⟨x, hx⟩ := b
          exact ⟨m :: x, by rw [← hx]; simp⟩
      · obtain ⟨⟨hc1, hc2⟩, hp⟩ := hc
        obtain ⟨m, x, rfl, hx⟩ := hnx c hc1 hc2 hp
        exact ⟨m, (hnm _ hl m).2 hc1.next.1, x, by simp⟩
/-- the search by size, and then by the first module in order -/
def cycS (lt : α → α → Prop) [∀ a b, Decidable (lt a b)] (nxt : α → List α) (reach : α → α → Nat → Bool) (sorted : List α) : Nat → Nat → Option (List α)
  | _, 0 => none
  | k, n + 1 => match sorted.findSome? fun s => walkS lt nxt reach (k + 1) k [s] with
    | some c => some c
    | none => cycS lt nxt reach sorted (k + 1) n
def BestIn (lt : α → α → Prop) (S : List α → Prop) : Option (List α) → Prop
  | none => ∀ c, ¬ S c
  | some c => S c ∧ ∀ d, S d → ¬ better lt d c
theorem BestIn.uniq (T : Tot lt) {S : List α → Prop} : ∀ {a b : Option (List α)}, BestIn lt S a → BestIn lt S b → a = b
  | none, none, _, _ => rfl
  | none, some c, h, k => absurd k.1 (h c)
  | some c, none, h, k => absurd h.1 (k c)
  | some c, some d, h, k => by
    rcases better_tot T c d with h1 | rfl | h1
    · exact absurd h1 (k.2 c h.1)
    · rfl
    · exact absurd h1 (h.2 d k.1)
theorem cyc_best (T : Tot lt) [∀ a b, Decidable (lt a b)] {nxt : α → List α} {reach : α → α → Nat → Bool} {sorted : List α} (hsp : sorted.Pairwise (fun a b => ¬ lt b a)) (hsm : ∀ m, m ∈ sorted ↔ m ∈ names) (hnp : ∀ a ∈ names, (nxt a).Pairwise (fun a b => ¬ lt b a)) (hnm : ∀ a ∈ names, ∀ m, m ∈ nxt a ↔ m ∈ imp a)
    (hin : ∀ a ∈ names, ∀ m ∈ imp a, m ∈ names) (hre : ∀ a b x, a ∈ names → Chn imp (a :: x) → b ∈ imp (lastOf a x) → reach a b (x.length + 1) = true) :
    ∀ (n k : Nat), k + n = names.length → (∀ c, Cyc names imp lt c → k < c.length) → BestIn lt (Cyc names imp lt) (cycS lt nxt reach sorted k n)
  | 0, k, hk, hmin => fun c hc => by
    have := hmin c hc
    have := hc.len
    omega
  | n + 1, k, hk, hmin => by
    have h1 : LeastIn lt (fun c => (Cyc names imp lt c ∧ c.length = k + 1) ∧ ∃ m ∈ sorted, ([] ++ [m]) <+: c) (sorted.findSome? fun s => walkS lt nxt reach (k + 1) k [s]) :=
      find_least T hsp fun m hm => walk_least T hnp hnm hin hre (k + 1) k m [] (Way.one ((hsm m).1 hm)) (by simp)
    have hcov : ∀ c, Cyc names imp lt c → ∃ m ∈ sorted, ([] ++ [m]) <+: c := fun c hc => by
      obtain ⟨h, t, rfl, hw, _⟩ := hc
      exact ⟨h, (hsm h).2 (hw.inn h (.head _)), t, rfl⟩
    rw [cycS]
    cases hf : sorted.findSome? fun s => walkS lt nxt reach (k + 1) k [s] with
    | some c =>
      rw [hf] at h1
      obtain ⟨⟨⟨h2, h3⟩, _⟩, h4⟩ := h1
      refine ⟨h2, fun d hd hb => ?_⟩
      have := hmin d hd
      rcases hb with hb | ⟨hb, hlx⟩
      · omega
      · exact h4 d ⟨⟨hd, by omega⟩, hcov d hd⟩ hlx
    | none =>
      rw [hf] at h1
      refine cyc_best T hsp hsm hnp hnm hin hre n (k + 1) (by omega) fun c hc => ?_
      have h2 := hmin c hc
      have h3 := h1 c
      rcases Nat.lt_or_ge (k + 1) c.length with h | h
      · exact h
      · exact absurd ⟨⟨hc, by omega⟩, hcov c hc⟩ h3
/-! the reference's -/
def cyclesR (lt : α → α → Prop) [∀ a b, Decidable (lt a b)] (names : List α) (imp : α → List α) : Nat → List α → List (List α)
  | 0, _ => []
  | f + 1, way => match way with
    | [] => []
    | h :: t => (if h ∈ imp (lastOf h t) then [way] else []) ++ names.flatMap fun s => if lt h s ∧ s ∈ imp (lastOf h t) ∧ s ∉ way then cyclesR lt names imp f (way ++ [s]) else []
theorem cycles_mem [∀ a b, Decidable (lt a b)] : ∀ (f : Nat) (h : α) (t : List α), Way names imp lt h t → names.length < f + (t.length + 1) → ∀ c, c ∈ cyclesR lt names imp f (h :: t) ↔ (Cyc names imp lt c ∧ (h :: t) <+: c)
  | 0, h, t, hw, hf, c => by
    have := nodup_le2 hw.nod hw.inn
    simp at this
    omega
  | f + 1, h, t, hw, hf, c => by
    rw [cyclesR, List.mem_append, List.mem_flatMap]
    constructor
    · rintro (hc | ⟨s, hs, hc⟩)
      · by_cases hh : h ∈ imp (lastOf h t)
        · rw [if_pos hh, List.mem_singleton] at hc
          subst hc
          exact ⟨⟨h, t, rfl, hw, hh⟩, List.prefix_rfl⟩
        · rw [if_neg hh] at hc
          cases hc
      · by_cases hk : lt h s ∧ s ∈ imp (lastOf h t) ∧ s ∉ h :: t
        · rw [if_pos hk] at hc
          obtain ⟨h1, x, hx⟩ := (cycles_mem f h (t ++ [s]) (hw.snoc hk.2.1 hk.1 hk.2.2 hs) (by simp; omega) c).1 hc
          exact ⟨h1, s :: x, by rw [← hx]; simp⟩
        · rw [if_neg hk] at hc
          cases hc
    · rintro ⟨hc, x, hx⟩
      subst hx
      cases x with
      | nil =>
        rw [List.append_nil] at hc ⊢
        obtain ⟨h', t', e, hw', hh⟩ := hc
        obtain ⟨rfl, rfl⟩ := List.cons.inj e
        exact .inl (by rw [if_pos hh]; exact .head _)
      | cons m x =>
        obtain ⟨h1, h2, h3⟩ := hc.next
        have hmn : m ∈ names := by
          obtain ⟨h', t', e, hw', _⟩ := hc
          exact hw'.inn m (by rw [← e]; simp)
        refine .inr ⟨m, hmn, ?_⟩
        rw [if_pos ⟨h2, h1, h3⟩]
        exact (cycles_mem f h (t ++ [m]) (hw.snoc h1 h2 h3 hmn) (by simp; omega) _).2 ⟨hc, x, by simp⟩
def preC (imp : α → List α) (h : α) (t : List α) : List (List α) := if h ∈ imp (lastOf h t) then [h :: t] else []
def nextC (lt : α → α → Prop) [∀ a b, Decidable (lt a b)] (names : List α) (imp : α → List α) (f : Nat) (h : α) (t : List α) (s : α) : List (List α) := if lt h s ∧ s ∈ imp (lastOf h t) ∧ s ∉ h :: t then cyclesR lt names imp f (h :: t ++ [s]) else []
section
variable [∀ a b, Decidable (lt a b)] {f : Nat} {h s : α} {t : List α}
theorem cyclesR_succ : cyclesR lt names imp (f + 1) (h :: t) = preC imp h t ++ names.flatMap (nextC lt names imp f h t) := rfl
theorem preC_yes (hh : h ∈ imp (lastOf h t)) : preC imp h t = [h :: t] := by unfold preC; rw [if_pos hh]
theorem preC_no (hh : ¬ h ∈ imp (lastOf h t)) : preC imp h t = [] := by unfold preC; rw [if_neg hh]
theorem nextC_yes (hh : lt h s ∧ s ∈ imp (lastOf h t) ∧ s ∉ h :: t) : nextC lt names imp f h t s = cyclesR lt names imp f (h :: t ++ [s]) := by unfold nextC; rw [if_pos hh]
theorem nextC_no (hh : ¬ (lt h s ∧ s ∈ imp (lastOf h t) ∧ s ∉ h :: t)) : nextC lt names imp f h t s = [] := by unfold nextC; rw [if_neg hh]
theorem flat_le {β γ : Type} {g : β → List γ} {k : Nat} (hg : ∀ s, (g s).length ≤ k) : ∀ m : List β, (m.flatMap g).length ≤ m.length * k
  | [] => by simp
  | s :: m => by
    rw [List.flatMap_cons, List.length_append, List.length_cons, Nat.add_mul, Nat.one_mul]
    have := hg s
    have := flat_le hg m
    omega
theorem preC_len : (preC imp h t).length ≤ 1 := by unfold preC; split <;> simp
theorem cyc_len (h6 : names.length ≤ 6) : ∀ (f : Nat) (way : List α), (cyclesR lt names imp f way).length ≤ 7 ^ f
  | 0, _ => by simp [cyclesR]
  | f + 1, [] => by simp [cyclesR]
  | f + 1, h :: t => by
    rw [cyclesR_succ, List.length_append]
    have h1 := preC_len (imp := imp) (h := h) (t := t)
    have h3 := flat_le (g := nextC lt names imp f h t) (k := 7 ^ f) (fun s => by
      unfold nextC
      split
      · exact cyc_len h6 f _
      · exact Nat.zero_le _) names
    have h4 : names.length * 7 ^ f ≤ 6 * 7 ^ f := Nat.mul_le_mul_right _ h6
    have h5 : 0 < 7 ^ f := Nat.pow_pos (by decide)
    rw [Nat.pow_succ]
    omega
theorem next_len (h6 : names.length ≤ 6) (s : α) : (nextC lt names imp f h t s).length ≤ 7 ^ f := by
  unfold nextC
  split
  · exact cyc_len h6 f _
  · exact Nat.zero_le _
end
theorem lexL_trn (T : Tot lt) : ∀ {a b c : List α}, lexL lt a b → lexL lt b c → lexL lt a c
  | x :: a, y :: b, z :: c, h, k => by
    rcases h with h | ⟨rfl, h⟩
    · rcases k with k | ⟨rfl, k⟩
      · exact .inl (T.trn _ _ _ h k)
      · exact .inl h
    · rcases k with k | ⟨rfl, k⟩
      · exact .inl k
      · exact .inr ⟨rfl, lexL_trn T h k⟩
theorem better_trn (T : Tot lt) {a b c : List α} (h : better lt a b) (k : better lt b c) : better lt a c := by
  rcases h with h | ⟨h, h'⟩
  · rcases k with k | ⟨k, _⟩
    · exact .inl (by omega)
    · exact .inl (by omega)
  · rcases k with k | ⟨k, k'⟩
    · exact .inl (by omega)
    · exact .inr ⟨by omega, lexL_trn T h' k'⟩
/-- the best so far -/
def stepB (bt : List α → List α → Bool) : Option (List α) → List α → Option (List α)
  | none, c => some c
  | some b, c => some (if bt c b then c else b)
theorem BestIn.congr {S S' : List α → Prop} (h : ∀ c, S c ↔ S' c) : ∀ {r : Option (List α)}, BestIn lt S r → BestIn lt S' r
  | none, k => fun c hc => k c ((h c).2 hc)
  | some c, k => ⟨(h c).1 k.1, fun d hd => k.2 d ((h d).2 hd)⟩
theorem BestIn.step (T : Tot lt) {bt : List α → List α → Bool} (hbt : ∀ c d, bt c d = true ↔ better lt c d) {S : List α → Prop} {c : List α} : ∀ {r : Option (List α)}, BestIn lt S r → BestIn lt (fun d => S d ∨ d = c) (stepB bt r c)
  | none, k => ⟨.inr rfl, fun d hd => by
    rcases hd with hd | rfl
    · exact absurd hd (k d)
    · intro h
      rcases h with h | ⟨_, h⟩
      · omega
      · exact lexL_irr T _ h⟩
  | some b, k => by
    show BestIn lt _ (some (if bt c b then c else b))
    by_cases h : bt c b = true
    · rw [if_pos h]
      have hb := (hbt c b).1 h
      refine ⟨.inr rfl, fun d hd hx => ?_⟩
      rcases hd with hd | rfl
      · exact k.2 d hd (better_trn T hx hb)
      · exact better_irr T _ hx
    · rw [if_neg h]
      have hb : ¬ better lt c b := fun x => h ((hbt c b).2 x)
      refine ⟨.inl k.1, fun d hd hx => ?_⟩
      rcases hd with hd | rfl
      · exact k.2 d hd hx
      · exact hb hx
theorem best_fold (T : Tot lt) {bt : List α → List α → Bool} (hbt : ∀ c d, bt c d = true ↔ better lt c d) : ∀ (l : List (List α)) (S : List α → Prop) (r : Option (List α)), BestIn lt S r → BestIn lt (fun d => S d ∨ d ∈ l) (l.foldl (stepB bt) r)
  | [], S, r, h => h.congr fun c => by simp
  | c :: l, S, r, h => by
    rw [List.foldl_cons]
    refine (best_fold T hbt l _ _ (h.step T hbt (c := c))).congr fun d => ?_
    rw [List.mem_cons]
    exact ⟨fun h => h.elim (fun h => h.elim .inl fun h => .inr (.inl h)) fun h => .inr (.inr h), fun h => h.elim (fun h => .inl (.inl h)) fun h => h.elim (fun h => .inl (.inr h)) .inr⟩
/-- the best of the cycles of all modules -/
theorem ref_best (T : Tot lt) [∀ a b, Decidable (lt a b)] {bt : List α → List α → Bool} (hbt : ∀ c d, bt c d = true ↔ better lt c d) (f : Nat) (hf : names.length ≤ f) :
    BestIn lt (Cyc names imp lt) ((names.flatMap fun s => cyclesR lt names imp f [s]).foldl (stepB bt) none) := by
  refine (best_fold T hbt _ (fun _ => False) none (fun c h => h)).congr fun c => ?_
  rw [List.mem_flatMap]
  constructor
  · rintro (h | ⟨s, hs, hc⟩)
    · exact h.elim
    · exact ((cycles_mem f s [] (Way.one hs) (by simp; omega) c).1 hc).1
  · intro hc
    obtain ⟨h, t, rfl, hw, hh⟩ := id hc
    have hn := hw.inn h (.head _)
    exact .inr ⟨h, hn, (cycles_mem f h [] (Way.one hn) (by simp; omega) _).2 ⟨hc, t, rfl⟩⟩
end
end Go.Mc

/- A small calculus for walks: the temporaries as a list of entries, memory as a list of owned items and of worlds that are kept; rules for the operations. General: any program P. No condition. -/
namespace Go.Eng
open Go.RowKit
/-! ### Entries: slot, condition, value -/
abbrev Env := List (Nat × Bool × Value)
def look : Env → Nat → Option (Bool × Value)
  | [], _ => none
  | (t, e) :: r, s => bif Nat.beq t s then some e else look r s
def evl (l : Env) : Operand → Option (Bool × Value)
  | .tmp t => look l t
  | .const v => some (true, v)
  | .global g => some (true, .pointer (some ⟨g, 0, none⟩))
  | .func f => some (true, .func (.func f) #[] #[])
/-- how many slots; the deferred calls so far; the round that one is in -/
structure Nm where
  n : Nat
  M : List Deferred
  r : Option Nat
structure Sees (n : Nm) (l : Env) (a : Act) : Prop where
  df : a.defers = n.M
  sz : a.tmps.size = n.n
  at_ : ∀ t c v, look l t = some (c, v) → a.tmps[t]? = some (bif c then v else undef)
theorem Sees.eval {n : Nm} {l : Env} {a : Act} (h : Sees n l a) {x : Operand} {c : Bool} {v : Value} (hx : evl l x = some (c, v)) (hc : c = true) : a.eval x = v := by
  subst hc
  match x, hx with
  | .tmp t, hx =>
    have := h.at_ t true v hx
    simp only [Act.eval, Array.getD_eq_getD_getElem?, this]; rfl
  | .const u, hx => simp only [evl, Option.some.injEq, Prod.mk.injEq] at hx; exact hx.2
  | .global g, hx => simp only [evl, Option.some.injEq, Prod.mk.injEq] at hx; exact hx.2
  | .func f, hx => simp only [evl, Option.some.injEq, Prod.mk.injEq] at hx; exact hx.2
theorem Sees.put {n : Nm} {l : Env} {a : Act} (h : Sees n l a) {d : Nat} (hd : d < n.n) (c : Bool) (v : Value) :
    Sees n ((d, c, v) :: l) (a.put (some d) (bif c then v else undef)) := by
  refine ⟨h.df, ?_, fun t c' v' ht => ?_⟩
  · show (a.tmps.setIfInBounds d _).size = n.n
    rw [Array.size_setIfInBounds]; exact h.sz
  · show (a.tmps.setIfInBounds d _)[t]? = _
    rw [Array.getElem?_setIfInBounds]
    simp only [look] at ht
    by_cases e : d = t
    · subst e
      rw [Nat.beq_refl, cond_true] at ht
      simp only [Option.some.injEq, Prod.mk.injEq] at ht
      obtain ⟨rfl, rfl⟩ := ht
      rw [if_pos rfl, if_pos (by rw [h.sz]; exact hd)]
    · rw [show Nat.beq d t = false from by rw [Bool.eq_false_iff]; intro hb; exact e (Nat.eq_of_beq_eq_true hb), cond_false] at ht
      rw [if_neg e]
      exact h.at_ t c' v' ht
/-- every entry of l' stands in l -/
inductive Sub (l : Env) : Env → Prop where
  | nil : Sub l []
  | cons {t : Nat} {c : Bool} {v : Value} {l' : Env} (h : look l t = some (c, v)) (r : Sub l l') : Sub l ((t, c, v) :: l')
theorem Sub.look {l l' : Env} (h : Sub l l') : ∀ t c v, look l' t = some (c, v) → Eng.look l t = some (c, v) := by
  induction h with
  | nil => intro t c v h; cases h
  | @cons t0 c0 v0 l0 h0 _ ih =>
    intro t c v ht
    simp only [Eng.look] at ht
    by_cases e : t0 = t
    · subst e
      rw [Nat.beq_refl, cond_true] at ht
      rw [h0]; exact ht
    · rw [show Nat.beq t0 t = false from by rw [Bool.eq_false_iff]; intro hb; exact e (Nat.eq_of_beq_eq_true hb), cond_false] at ht
      exact ih t c v ht
theorem Sees.sub {n : Nm} {l l' : Env} {a : Act} (h : Sees n l a) (hs : Sub l l') : Sees n l' a :=
  ⟨h.df, h.sz, fun t c v ht => h.at_ t c v (hs.look t c v ht)⟩
/-! ### Guards -/
inductive Guard (l : Env) (ops : Array Oper) : Option (Nat × Bool) → Bool → Prop where
  | none : Guard l ops .none true
  | yes {j d : Nat} {b : Bool} (hd : (ops[j]?).bind (·.dst) = some d) (h : look l d = some (true, .bool b)) : Guard l ops (some (j, true)) b
  | no {j d : Nat} {b : Bool} (hd : (ops[j]?).bind (·.dst) = some d) (h : look l d = some (true, .bool b)) : Guard l ops (some (j, false)) (!b)
  | cyes {j d : Nat} {c b : Bool} (hd : (ops[j]?).bind (·.dst) = some d) (h : look l d = some (c, .bool b)) : Guard l ops (some (j, true)) (c && b)
  | cno {j d : Nat} {c b : Bool} (hd : (ops[j]?).bind (·.dst) = some d) (h : look l d = some (c, .bool b)) : Guard l ops (some (j, false)) (c && !b)
theorem yielded_of {n : Nm} {l : Env} {a : Act} (hs : Sees n l a) {ops : Array Oper} {j d : Nat} {c b : Bool} (hd : (ops[j]?).bind (·.dst) = some d) (h : look l d = some (c, .bool b)) :
    yielded ops a.tmps j = if c then some b else none := by
  have ht := hs.at_ d c _ h
  unfold yielded
  rw [hd]
  simp only [Option.bind_some, ht]
  cases c <;> simp [undef]
theorem Guard.wanted {n : Nm} {l : Env} {a : Act} (hs : Sees n l a) {ops : Array Oper} {o : Oper} {c : Bool} (h : Guard l ops o.guard c) :
    Region.wanted o (yielded ops a.tmps) = c := by
  unfold Region.wanted
  generalize o.guard = g at h
  cases h with
  | none => rfl
  | @yes j d b hd h => simp only [yielded_of hs hd h, if_true]; cases c <;> rfl
  | @no j d b hd h => simp only [yielded_of hs hd h, if_true]; cases b <;> rfl
  | @cyes j d c b hd h => simp only [yielded_of hs hd h]; cases c <;> cases b <;> rfl
  | @cno j d c b hd h => simp only [yielded_of hs hd h]; cases c <;> cases b <;> rfl
theorem Sub.cons_eq {l l' : Env} {t : Nat} {c : Bool} {v v' : Value} (h : Eng.look l t = some (c, v')) (hv : v' = v) (r : Sub l l') : Sub l ((t, c, v) :: l') := .cons (by rw [h, hv]) r
/-! what a tactic finds by itself, as an argument that is filled in -/
theorem Sub.au {l l' : Env} (h : Sub l l' := by (repeat (first | exact Sub.nil | apply Sub.cons rfl | (refine Sub.cons_eq rfl (congrArg (Value.int .i64) (by first | omega | (simp only; omega))) ?_))); first | done | fail) : Sub l l' := h
theorem Guard.au {l : Env} {ops : Array Oper} {g : Option (Nat × Bool)} {c : Bool} (h : Guard l ops g c := by (first | exact Guard.none | exact Guard.yes rfl rfl | exact Guard.no rfl rfl | exact Guard.cyes rfl rfl | exact Guard.cno rfl rfl); first | done | fail) : Guard l ops g c := h
/-! ### Memory: items and kept worlds -/
structure Item where
  own : Nat → Prop
  holds : World → Prop
  stab : ∀ w w' : World, (∀ k, own k → w'.heap[k]? = w.heap[k]?) → holds w → holds w'
/-- what is kept of s in w: all but the blocks O -/
structure Keep (O : Nat → Prop) (s w : World) : Prop where
  os : w.os = s.os
  tape : w.tape = s.tape
  output : w.output = s.output
  size : s.heap.size ≤ w.heap.size
  block : ∀ k, k < s.heap.size → ¬ O k → w.heap[k]? = s.heap[k]?
theorem Keep.refl (O : Nat → Prop) (s : World) : Keep O s s := ⟨rfl, rfl, rfl, Nat.le_refl _, fun _ _ _ => rfl⟩
theorem Keep.trans {O : Nat → Prop} {a b c : World} (h : Keep O a b) (k : Keep O b c) : Keep O a c :=
  ⟨k.os.trans h.os, k.tape.trans h.tape, k.output.trans h.output, Nat.le_trans h.size k.size, fun i hi ho => (k.block i (Nat.lt_of_lt_of_le hi h.size) ho).trans (h.block i hi ho)⟩
theorem Keep.mono {O O' : Nat → Prop} {s w : World} (h : Keep O s w) (ho : ∀ k, k < s.heap.size → O k → O' k) : Keep O' s w :=
  ⟨h.os, h.tape, h.output, h.size, fun k hk hn => h.block k hk fun x => hn (ho k hk x)⟩
/-- nothing that was there has turned -/
abbrev Ext (w w' : World) : Prop := Keep (fun _ => False) w w'
theorem Ext.below {w w' : World} (h : Ext w w') : Below w.heap.size w w' := ⟨h.os, h.tape, h.output, h.size, fun k hk => h.block k hk id⟩
theorem Ext.of_below {w w' : World} (h : Below w.heap.size w w') : Ext w w' := ⟨h.os, h.tape, h.output, h.size, fun k hk _ => h.block k hk⟩
def owned (H : List Item) (k : Nat) : Prop := ∃ i ∈ H, i.own k
structure Cls (H : List Item) (S : List World) (w : World) : Prop where
  holds : ∀ i ∈ H, i.holds w
  lt : ∀ i ∈ H, ∀ k, i.own k → k < w.heap.size
  dj : H.Pairwise fun i j => ∀ k, i.own k → ¬ j.own k
  kp : ∀ s ∈ S, Keep (owned H) s w
theorem Cls.start (w : World) : Cls [] [w] w :=
  { holds := fun i hi => by cases hi
    lt := fun i hi => by cases hi
    dj := List.Pairwise.nil
    kp := fun s hs => by simp only [List.mem_singleton] at hs; subst hs; exact .refl _ _ }
theorem Cls.ext {H : List Item} {S : List World} {w w' : World} (h : Cls H S w) (he : Ext w w') : Cls H S w' :=
  ⟨fun i hi => i.stab w w' (fun k hk => he.block k (h.lt i hi k hk) id) (h.holds i hi), fun i hi k hk => Nat.lt_of_lt_of_le (h.lt i hi k hk) he.size, h.dj,
    fun s hs => (h.kp s hs).trans (he.mono fun _ _ x => x.elim)⟩
theorem Cls.drew {H : List Item} {S : List World} {w : World} (h : Cls H S w) : Cls H S { w with drawn := w.drawn + 1 } :=
  h.ext ⟨rfl, rfl, rfl, Nat.le_refl _, fun _ _ _ => rfl⟩
/-- forget a kept world -/
theorem Cls.forget {H : List Item} {S S' : List World} {w : World} (h : Cls H S w) (hs : ∀ s ∈ S', s ∈ S) : Cls H S' w := ⟨h.holds, h.lt, h.dj, fun s x => h.kp s (hs s x)⟩
/-- keep the present world, too -/
theorem Cls.note {H : List Item} {S : List World} {w : World} (h : Cls H S w) : Cls H (w :: S) w :=
  ⟨h.holds, h.lt, h.dj, fun s x => by cases x with | head => exact .refl _ _ | tail _ x => exact h.kp s x⟩
/-- one item more: a block that is new -/
theorem Cls.add {H : List Item} {S : List World} {w w' : World} (h : Cls H S w) (he : Ext w w') (i : Item) (hi : i.holds w') (ho : ∀ k, i.own k → w.heap.size ≤ k ∧ k < w'.heap.size) : Cls (i :: H) S w' := by
  have h' := h.ext he
  refine ⟨fun j hj => ?_, fun j hj => ?_, .cons (fun j hj k hk hk' => ?_) h'.dj, fun s hs => (h'.kp s hs).mono fun k _ ⟨j, hj, x⟩ => ⟨j, .tail _ hj, x⟩⟩
  · cases hj with
    | head => exact hi
    | tail _ hj => exact h'.holds j hj
  · cases hj with
    | head => exact fun k hk => (ho k hk).2
    | tail _ hj => exact h'.lt j hj
  · have := h.lt j hj k hk'; have := (ho k hk).1; omega
theorem owns_mem {H : List Item} {i : Item} (hi : i ∈ H) {k : Nat} (hk : i.own k) : owned H k := ⟨i, hi, hk⟩
/-- ONE ITEM IS TURNED INTO ANOTHER: at its place p; the rest is as it was. 'own' may only grow, by what is new. -/
theorem Cls.turn {H : List Item} {S : List World} {w w' : World} (h : Cls H S w) (p : Nat) {i j : Item} (hp : H[p]? = some i) (hw : Keep i.own w w') (hj : j.holds w')
    (ho : ∀ k, j.own k → (i.own k ∨ w.heap.size ≤ k) ∧ k < w'.heap.size) (hk : ∀ k, i.own k → j.own k) : Cls (H.set p j) S w' := by
  have hlt : p < H.length := by
    rcases Nat.lt_or_ge p H.length with hl | hl
    · exact hl
    · rw [List.getElem?_eq_none hl] at hp; cases hp
  have hpi : H[p] = i := by rw [List.getElem?_eq_getElem hlt] at hp; exact Option.some.inj hp
  have far : ∀ q (hq : q < H.length), q ≠ p → ∀ k, H[q].own k → ¬ i.own k := by
    intro q hq hne k hk hik
    rcases Nat.lt_or_gt_of_ne hne with hl | hl
    · exact List.pairwise_iff_getElem.1 h.dj q p hq hlt hl k hk (hpi ▸ hik)
    · exact List.pairwise_iff_getElem.1 h.dj p q hlt hq hl k (hpi ▸ hik) hk
  have mem : ∀ x ∈ H.set p j, x = j ∨ ∃ q, ∃ hq : q < H.length, q ≠ p ∧ x = H[q] := by
    intro x hx
    obtain ⟨q, hq, e⟩ := List.getElem_of_mem hx
    rw [List.getElem_set] at e
    by_cases hqp : p = q
    · rw [if_pos hqp] at e; exact .inl e.symm
    · rw [if_neg hqp] at e; exact .inr ⟨q, by simpa using hq, Ne.symm hqp, e.symm⟩
  refine ⟨fun x hx => ?_, fun x hx k hxk => ?_, ?_, fun s hs => ?_⟩
  · rcases mem x hx with rfl | ⟨q, hq, hne, rfl⟩
    · exact hj
    · exact H[q].stab w w' (fun k hk => hw.block k (h.lt _ (List.getElem_mem hq) k hk) (far q hq hne k hk)) (h.holds _ (List.getElem_mem hq))
  · rcases mem x hx with rfl | ⟨q, hq, hne, rfl⟩
    · exact (ho k hxk).2
    · exact Nat.lt_of_lt_of_le (h.lt _ (List.getElem_mem hq) k hxk) hw.size
  · rw [List.pairwise_iff_getElem]
    intro a b ha hb hab k hka hkb
    rw [List.getElem_set] at hka hkb
    simp only [List.length_set] at ha hb
    by_cases h1 : p = a
    · subst h1
      rw [if_pos rfl] at hka
      rw [if_neg (by omega)] at hkb
      rcases (ho k hka).1 with h2 | h2
      · exact far b hb (by omega) k hkb h2
      · have := h.lt _ (List.getElem_mem hb) k hkb; omega
    · rw [if_neg h1] at hka
      by_cases h2 : p = b
      · subst h2
        rw [if_pos rfl] at hkb
        rcases (ho k hkb).1 with h3 | h3
        · exact far a ha (by omega) k hka h3
        · have := h.lt _ (List.getElem_mem ha) k hka; omega
      · rw [if_neg h2] at hkb
        exact List.pairwise_iff_getElem.1 h.dj a b ha hb hab k hka hkb
  · have hin : ∀ k, i.own k → owned (H.set p j) k := fun k hik => ⟨j, List.mem_of_getElem? (List.getElem?_set_self (by simpa using hlt)), hk k hik⟩
    have hs1 := h.kp s hs
    refine ⟨hw.os.trans hs1.os, hw.tape.trans hs1.tape, hw.output.trans hs1.output, Nat.le_trans hs1.size hw.size, fun k hks hno => ?_⟩
    have h1 : ¬ i.own k := fun x => hno (hin k x)
    refine (hw.block k (Nat.lt_of_lt_of_le hks hs1.size) h1).trans (hs1.block k hks ?_)
    rintro ⟨x, hx, hxk⟩
    obtain ⟨q, hq, rfl⟩ := List.getElem_of_mem hx
    by_cases hqp : q = p
    · subst hqp; exact h1 (hpi ▸ hxk)
    · exact hno ⟨H[q], List.mem_of_getElem? (by rw [List.getElem?_set_ne (Ne.symm hqp)]; exact List.getElem?_eq_getElem hq), hxk⟩
/-! ### Blocks -/
def blk (b : Nat) (t : TypeId) (c : List Value) : Item :=
  ⟨fun k => k = b, fun w => w.heap[b]? = some (.cells c.toArray t (0, 0)), fun w w' hk h => (hk b rfl).trans h⟩
theorem blk_cell {w : World} {b o : Nat} {t : TypeId} {c : List Value} (h : (blk b t c).holds w) : w.cell? ⟨b, o, none⟩ = c[o]? := by
  have h' : w.heap[b]? = some (.cells c.toArray t (0, 0)) := h
  simp [World.cell?, h']
theorem blk_frozen {w : World} {b o : Nat} {t : TypeId} {c : List Value} (h : (blk b t c).holds w) : w.frozen? ⟨b, o, none⟩ = false := by
  have h' : w.heap[b]? = some (.cells c.toArray t (0, 0)) := h
  simp [World.frozen?, h']
theorem ext_alloc (w : World) (o : Obj) : Ext w (w.alloc o) := Ext.of_below ((Below.refl _ _).alloc (Nat.le_refl _) o)
theorem Cls.alloc {H : List Item} {S : List World} {w : World} (h : Cls H S w) (t : TypeId) (c : List Value) :
    Cls (blk w.heap.size t c :: H) S (w.alloc (.cells c.toArray t)) :=
  h.add (ext_alloc w _) _ (heap_alloc_new w _) (fun k hk => by
    have hk' : k = w.heap.size := hk
    subst hk'; simp)
end Go.Eng

/- Codes walked in whatever round of a range over a function, with whatever deferred calls: the rules of control out of the kit's fenced ones. General. No condition. -/
namespace Go.Eng
open Go.RowKit
def wideR (r : Option Nat) : Fence := { Fence.wide with round := r }
theorem fencedR (P : Program) (r : Option Nat) (m : Machine) : m.fenced P (wideR r) := fenced_wide P m
theorem roomR (r : Option Nat) (n : Nat) : (wideR r).room n := room_wide n
def opCalm (o : Oper) : Bool := match o.op with
  | .defer _ => false
  | _ => true
/-- no deferred call -/
def calmC : Code → Bool
  | .region _ ops _ => ops.toList.all opCalm
  | .seq a b => calmC a && calmC b
  | .cond _ a b => calmC a && calmC b
  | .block _ a => calmC a
  | .loop a => calmC a
  | .scope a => calmC a
  | _ => true
def wpp (r : Option Nat) (P : Program) (c : Code) (Q : Exit → Act → World → Prop) (a : Act) (w : World) : Prop := (r.isSome = true → calmC c = true) → c.wpIn (wideR r) 0 P Q a w
section
variable {P : Program} {r : Option Nat} {Q : Exit → Act → World → Prop} {a : Act} {w : World} {x y c : Code} {ops : Array Oper}
theorem wpp_mono {Q' : Exit → Act → World → Prop} (h : wpp r P c Q a w) (hq : ∀ e a w, Q e a w → Q' e a w) : wpp r P c Q' a w := fun hp => wpIn_mono (h hp) hq
theorem wpp_seq (h : wpp r P x (Exit.then (wpp r P y Q) Q) a w) : wpp r P (.seq x y) Q a w := fun hp => by
  have hp2 : r.isSome = true → calmC x = true ∧ calmC y = true := fun h => by have := hp h; simpa [calmC] using this
  refine wpIn_seq (wpIn_mono (h fun h => (hp2 h).1) fun e a w hq => ?_)
  cases e with
  | normal => exact hq fun h => (hp2 h).2
  | _ => exact hq
theorem wpp_cond_split {o : Operand} {t : Bool} (hc : a.eval o = .bool t) (ht : t = true → wpp r P x Q a w) (hf : t = false → wpp r P y Q a w) : wpp r P (.cond o x y) Q a w := fun hp => by
  have hp2 : r.isSome = true → calmC x = true ∧ calmC y = true := fun h => by have := hp h; simpa [calmC] using this
  exact wpIn_cond_split hc (fun h => ht h fun h => (hp2 h).1) (fun h => hf h fun h => (hp2 h).2)
theorem wpp_block {id : Nat} (h : wpp r P c (Exit.inBlock id Q) a w) : wpp r P (.block id c) Q a w := fun hp => wpIn_block (h hp)
theorem wpp_skip (h : Q .normal a w) : wpp r P .skip Q a w := fun _ => wpIn_skip h
theorem wpp_exit {id : Nat} (h : Q (.exit id) a w) : wpp r P (.exit id) Q a w := fun _ => wpIn_exit h
theorem wpp_ret (h : Q .ret a w) : wpp r P .ret Q a w := fun _ => wpIn_ret h
theorem wpp_label {i : Nat} (h : Q .normal a w) : wpp r P (.label i) Q a w := fun _ => wpIn_label h
def roundsP (r : Option Nat) (P : Program) (c : Code) (Q : Exit → Act → World → Prop) : Nat → Act → World → Prop
  | 0, _, _ => False
  | m + 1, a, w => wpp r P c (Exit.then (roundsP r P c Q m) Q) a w
theorem wpp_loop (m : Nat) (h : roundsP r P c Q m a w) : wpp r P (.loop c) Q a w := fun hp => by
  have hp : r.isSome = true → calmC c = true := hp
  refine wpIn_loop_rounds m ?_
  induction m generalizing a w with
  | zero => exact h.elim
  | succ m ih =>
    refine wpIn_mono (h hp) fun e a w hq => ?_
    cases e with
    | normal => exact ih hq
    | _ => exact hq
theorem asks_outgrownR {b : Frame} {k : List Go.Item} {cs : List Frame} {i : Nat} {rest : List Nat} {o : Oper}
    (ho : ops[i]? = some o) (hw : Region.wanted o (yielded ops a.tmps) = true) (hb : b.kind ≠ .early) (hs : o.semAt b.roundOf a.eval = execOp a.eval o) (h : o.asks P a w) :
    Outgrown P (lone (b.atR a (.inRegion ops (i :: rest) :: k)) cs w) := by
  obtain ⟨hm, hkept⟩ := h
  have hg := stepGR_op (P := P) (b := b) (k := k) (cs := cs) (w := w) (rest := rest) ho hw
  rw [hs] at hg
  have hes : noRoomEvent ∈ (stepG P true { frame := b.atR a (.inRegion ops (i :: rest) :: k), callers := cs, status := .running, dying := none } w).es := by
    rw [hg]
    have hk : ((b.atR a (.inRegion ops (i :: rest) :: k)).kind == CallKind.early) = false := by simpa [Frame.atR] using hb
    have hm' : noRoomEvent ∈ Sem.events P (execOp a.eval o) w #[] := hm
    simp only [stepG.apply, Sem.runT_eq, if_true, hk, Bool.false_eq_true, if_false]
    rw [GStep.es_after]
    refine Array.mem_append.2 (.inl (seen_keeps P _ _ ?_))
    cases hrun : (execOp a.eval o).run P w with
    | ok x w' => exact hm'
    | halt x w' =>
      rw [hrun] at hkept
      cases x with
      | unsupported u => cases u <;> first | exact hkept.elim | exact hm'
      | blocked => exact hkept.elim
      | waiting => exact hkept.elim
      | _ => exact hm'
  refine Outgrown.now (o := { g := 0, fn := (b.atR a (.inRegion ops (i :: rest) :: k)).fn, pos := (b.atR a (.inRegion ops (i :: rest) :: k)).place, act := .mark .noRoom }) ?_ rfl rfl
  rw [stepT, move_lone]
  refine runT_lists P _ 0 { frame := b.atR a (.inRegion ops (i :: rest) :: k), callers := cs, status := .running, dying := none } (by simp [lone]) _ ?_
  exact mem_ofEvents (e := noRoomEvent) (by simpa [lone] using hes)
/-- some operations of a region, ahead of others -/
theorem wpp_ops2 {Y : Exit → Act → World → Prop} (l2 : List Nat) (hY : ∀ a w, Y .normal a w → ∀ (b : Frame) (k : List Go.Item) (cs : List Frame), b.roundOf = r → ∃ e a' w', Q e a' w' ∧ ArrivesIn (Machine.fenced P (wideR r)) P (lone (b.atR a (.inRegion ops l2 :: k)) cs w) b k cs e a' w')
    (hne : ∀ e a w, e ≠ .normal → Y e a w → Q e a w) (l : List Nat) : ∀ (a : Act) (w : World), wpOps P ops Y l a w → (r.isSome = true → ops.toList.all opCalm = true) → ∀ (b : Frame) (k : List Go.Item) (cs : List Frame), b.roundOf = r →
      ∃ e a' w', Q e a' w' ∧ ArrivesIn (Machine.fenced P (wideR r)) P (lone (b.atR a (.inRegion ops (l ++ l2) :: k)) cs w) b k cs e a' w' := by
  induction l with
  | nil => exact fun a w h _ b k cs hro => hY a w h b k cs hro
  | cons i rest0 ih =>
    intro a w h hcalm b k cs hro
    obtain ⟨rest, hrest⟩ : ∃ rest, rest0 ++ l2 = rest := ⟨_, rfl⟩
    rw [hrest] at ih
    rw [List.cons_append, hrest]
    simp only [wpOps] at h
    cases ho : ops[i]? with
    | none =>
      simp only [ho] at h
      obtain ⟨e, a', w', hq, harr⟩ := ih a w h hcalm b k cs hro
      have hs := stepR_op_skip (P := P) (b := b) (a := a) (k := k) (cs := cs) (w := w) (ops := ops) (i := i) (rest := rest) (by simp [ho])
      simp only [ho, Option.bind_none, Act.put] at hs
      exact ⟨e, a', w', hq, .of_steps (.one (fencedR _ _ _) hs) harr⟩
    | some o =>
      simp only [ho] at h
      have hsem : o.semAt b.roundOf a.eval = execOp a.eval o := by
        rw [hro]
        cases hr : r with
        | none => rfl
        | some l0 =>
          refine Oper.semAt_eq _ _ _ fun c hc => ?_
          have h1 := hcalm (by rw [hr]; rfl)
          rw [List.all_eq_true] at h1
          have h2 := h1 o (by
            have := Array.mem_of_getElem? ho
            simpa using this)
          unfold opCalm at h2
          rw [hc] at h2
          cases h2
      by_cases hw : Region.wanted o (yielded ops a.tmps) = true
      · simp only [hw, if_true] at h
        rcases h with h | ⟨hasks, a₀, w₀, hq⟩
        case inr =>
          by_cases hk : b.kind = .early
          · exact ⟨.outgrown, a₀, w₀, hne _ _ _ (by simp) hq, .inl hk⟩
          · exact ⟨.outgrown, a₀, w₀, hne _ _ _ (by simp) hq, .inr (asks_outgrownR ho hw hk hsem hasks)⟩
        simp only [Oper.wp, Oper.upon] at h
        have h0 : (lone (b.atR a (.inRegion ops (i :: rest) :: k)) cs w).fenced P (wideR r) := fencedR _ _ _
        have hg := stepGR_op (P := P) (b := b) (k := k) (cs := cs) (w := w) (rest := rest) ho hw
        rw [hsem] at hg
        have hfin : ∀ v, (b.atR a (.inRegion ops (i :: rest) :: k)).finish v = b.atR (a.put o.dst v) (.inRegion ops rest :: k) := by
          intro v; rw [Frame.finish_atR, ho]; rfl
        split at h
        · rename_i v w' hr'
          obtain ⟨e, a', w'', hq, harr⟩ := ih _ _ h hcalm b k cs hro
          refine ⟨e, a', w'', hq, .of_steps (.one h0 (step_lone_go ?_)) harr⟩
          rw [hg, ← hfin]; simp [stepG.apply, hr']
        · rename_i w' hr'
          obtain ⟨e, a', w'', hq, harr⟩ := ih _ _ h hcalm b k cs hro
          refine ⟨e, a', w'', hq, .of_steps (.one h0 (step_lone_go ?_)) harr⟩
          rw [hg, ← hfin]; simp [stepG.apply, hr']
        · rename_i d w' hr'
          obtain ⟨e, a', w'', hq, harr⟩ := ih _ _ h hcalm b k cs hro
          refine ⟨e, a', w'', hq, .of_steps (.one h0 (step_lone_go ?_)) harr⟩
          have : ({ b.atR a (.inRegion ops (i :: rest) :: k) with defers := d :: a.defers } : Frame).finish undef =
              b.atR ({ a with defers := d :: a.defers }.put o.dst undef) (.inRegion ops rest :: k) := by
            have := Frame.finish_atR b { a with defers := d :: a.defers } ops i rest k undef
            rw [ho] at this; exact this
          rw [hg]; simp only [stepG.apply, Sem.runT_eq, hr', GStep.bare_after]
          exact congrArg (fun fr => GStep.go { frame := fr, callers := cs, status := .running, dying := none } w') this
        · rename_i f args w' hr'
          obtain ⟨e, w'', fr, hR, hsteps, hfn, hleave⟩ := h (b.atR a (.inRegion ops (i :: rest) :: k) :: cs)
          have hsteps := comesIn_wide.2 hsteps
          have henter : step P (lone (b.atR a (.inRegion ops (i :: rest) :: k)) cs w) =
              .next (lone (Frame.enter P f args .normal) (b.atR a (.inRegion ops (i :: rest) :: k) :: cs) w') :=
            step_lone_go (by rw [hg]; simp [stepG.apply, hr', Frame.atR])
          cases e with
          | returned v =>
            obtain ⟨e, a', w₃, hq, harr⟩ := ih _ _ hR hcalm b k cs hro
            refine ⟨e, a', w₃, hq, .of_steps (.head h0 henter (StepsIn.trans hsteps (.one (fencedR _ _ _) ?_))) harr⟩
            rw [← hfin]; exact step_leave_returned hleave
          | panicked chain =>
            refine ⟨.panic chain, a, w'', hne _ _ _ (by simp) hR, .inRegion ops (i :: rest) :: k, .head h0 henter (StepsIn.trans hsteps (.one (fencedR _ _ _) ?_))⟩
            rw [← Frame.raise_atR]; exact step_leave_panicked hleave
          | outgrown =>
            obtain ⟨a₀, w₀, hq⟩ := hR
            exact ⟨.outgrown, a₀, w₀, hne _ _ _ (by simp) hq, .inr (Outgrown.of_steps (.one henter) hsteps)⟩
        · rename_i row args w' hr'
          obtain ⟨v, w'', hR, hsteps⟩ := h (b.atR a (.inRegion ops (i :: rest) :: k)) cs
          have hsteps := stepsIn_wide.2 hsteps
          have henter : step P (lone (b.atR a (.inRegion ops (i :: rest) :: k)) cs w) =
              .next (lone (Frame.ofRow P row args .normal) (b.atR a (.inRegion ops (i :: rest) :: k) :: cs) w') :=
            step_lone_go (by rw [hg]; simp [stepG.apply, hr', Frame.atR])
          obtain ⟨e, a', w₃, hq, harr⟩ := ih _ _ hR hcalm b k cs hro
          refine ⟨e, a', w₃, hq, .of_steps (.head h0 henter ?_) harr⟩
          rw [← hfin]; exact hsteps
        · rename_i v w' hr'
          refine ⟨_, a, w', hne _ _ _ (by simp) h, .inRegion ops (i :: rest) :: k, .one h0 (step_lone_go ?_)⟩
          rw [hg, ← Frame.raise_atR]; simp [stepG.apply, hr']
        · exact h.elim
      · simp only [hw, if_false, Bool.false_eq_true] at h
        obtain ⟨e, a', w', hq, harr⟩ := ih _ _ h hcalm b k cs hro
        have hs := stepR_op_skip (P := P) (b := b) (a := a) (k := k) (cs := cs) (w := w) (ops := ops) (i := i) (rest := rest)
          (by simp [ho]; simpa using hw)
        simp only [ho, Option.bind_some] at hs
        exact ⟨e, a', w', hq, .of_steps (.one (fencedR _ _ _) hs) harr⟩
theorem wpp_ops (l : List Nat) (a : Act) (w : World) (h : wpOps P ops Q l a w) (hcalm : r.isSome = true → ops.toList.all opCalm = true) (b : Frame) (k : List Go.Item) (cs : List Frame) (hro : b.roundOf = r) :
      ∃ e a' w', Q e a' w' ∧ ArrivesIn (Machine.fenced P (wideR r)) P (lone (b.atR a (.inRegion ops l :: k)) cs w) b k cs e a' w' := by
  have := wpp_ops2 (r := r) (Q := Q) [] (fun a w h b k cs _ => ⟨.normal, a, w, h, .one (fencedR _ _ _) stepR_region_end⟩) (fun e a w _ h => h) l a w h hcalm b k cs hro
  rwa [List.append_nil] at this
theorem wpOps_of_list (l : List Oper) : ∀ (k : Nat), (∀ j, j < l.length → l[j]? = ops[k + j]?) → ∀ a w, wpList P ops Q l a w → wpOps P ops Q (List.range' k l.length) a w := by
  induction l with
  | nil => intro k _ a w h; exact h
  | cons o l ih =>
    intro k h a w hw
    have h0 : ops[k]? = some o := by simpa using (h 0 (by simp)).symm
    have ih' := ih (k + 1) (fun j hj => by have := h (j + 1) (by simpa using hj); simpa [Nat.add_assoc, Nat.add_comm 1 j] using this)
    simp only [List.length_cons, List.range'_succ, wpOps, h0]
    unfold wpList at hw
    split at hw
    · rename_i hwt
      rw [if_pos hwt]
      exact hw.imp (Oper.wp_mono (fun a w h => ih' a w h)) id
    · rename_i hwt
      rw [if_neg hwt]
      exact ih' _ _ hw
theorem wpp_region {id : Nat} (h : wpOps P ops Q (List.range ops.size) a w) : wpp r P (.region id ops false) Q a w := fun hp b k cs hro _ _ =>
  let ⟨e, a', w', q, s⟩ := wpp_ops _ a w h hp b k cs hro; ⟨e, a', w', q, .of_steps (.one (fencedR _ _ _) stepR_region) s⟩
theorem wpp_region_draw {id : Nat} (h : ∀ t, wpOps P ops Q (Region.schedule (P.follows .mixedOrders) ops t) a { w with drawn := w.drawn + 1 }) : wpp r P (.region id ops true) Q a w := fun hp b k cs hro _ _ =>
  let ⟨e, a', w', q, s⟩ := wpp_ops _ a _ (h _) hp b k cs hro; ⟨e, a', w', q, .of_steps (.one (fencedR _ _ _) stepR_region_draw) s⟩
theorem wpp_region_any {id : Nat} (hm : P.follows .mixedOrders = true) (h : wpAny P .any ops Q ops.size (Array.replicate ops.size false) a { w with drawn := w.drawn + 1 }) : wpp r P (.region id ops true) Q a w :=
  wpp_region_draw fun t => by
    simp only [Region.schedule, hm, Bool.true_or, if_true]
    exact wpAny_sound ops.size t _ a _ h
theorem wpp_region_lit {id : Nat} {l : List Oper} (h : wpList P l.toArray Q l a w) : wpp r P (.region id l.toArray false) Q a w := by
  refine wpp_region ?_
  have := wpOps_eq_wpList (P := P) (ops := l.toArray) (Q := Q) l 0 (fun j => by simp)
  rw [List.range_eq_range']
  have hs : l.toArray.size = l.length := by simp
  rw [hs, this]
  exact h
theorem wpp_region_quiet {id : Nat} {C : World → Prop} (hm : P.follows .mixedOrders = true) (hB : Region.lexB .any ops = true) (hC : C { w with drawn := w.drawn + 1 })
    (h : wpQuiet P ops C (fun a' => ∀ w', C w' → Q .normal a' w') ops.toList a) : wpp r P (.region id ops true) Q a w := by
  simp only [Region.lexB, Bool.and_eq_true] at hB
  refine wpp_region_any hm (wpAny_of_quiet (Q := fun a' => ∀ w', C w' → Q .normal a' w') (fun _ w' hw' h => h w' hw') _ _ _ _ hC ?_)
  have := wpAnyQ_lex (C := C) (md := .any) hB.1 ops.toList 0 (Array.replicate ops.size false) a (by simp) (by simpa using hB.2) h
  simpa using this
theorem calls_of_wpp {f : FuncId} {fn : Func} {args : Array Value} {R : Ending → World → Prop} (hf : P.funcs[f]? = some fn) (hb : fn.body = some c)
    (h : wpp none P c (bodyPost P fn R) { tmps := args ++ Array.replicate (fn.ntmps - args.size) undef, defers := [] } w) : Calls P f args w R :=
  calls_of_wp hf hb (wpIn_wide.1 (h fun h => by cases h))
end
end Go.Eng

/- The rules of the calculus: control flow, pure operations, loads, calls, new blocks, stores. General: any program P. No condition. -/
namespace Go.Eng
open Go.RowKit
/-! ### Judgements -/
/-- where the operation is wanted it yields v and leaves the world in its class -/
structure Pev (P : Program) (n : Nm) (l : Env) (C : World → Prop) (o : Oper) (c : Bool) (v : Value) : Prop where
  run : c = true → ∀ a w, Sees n l a → C w → Oper.quietUpon P C w v ((execOp a.eval o).run P w)
structure QL (P : Program) (n : Nm) (ops : Array Oper) (C : World → Prop) (K : Act → Prop) (rest : List Oper) (l : Env) : Prop where
  run : ∀ a, Sees n l a → wpQuiet P ops C K rest a
structure OL (P : Program) (n : Nm) (ops : Array Oper) (Q : Exit → Act → World → Prop) (rest : List Oper) (l : Env) (C : World → Prop) : Prop where
  run : ∀ a w, Sees n l a → C w → wpList P ops Q rest a w
structure W (P : Program) (n : Nm) (c : Code) (Q : Exit → Act → World → Prop) (l : Env) (C : World → Prop) : Prop where
  run : ∀ a w, Sees n l a → C w → wpp n.r P c Q a w
structure At (n : Nm) (Q : Exit → Act → World → Prop) (e : Exit) (l : Env) (C : World → Prop) : Prop where
  run : ∀ a w, Sees n l a → C w → Q e a w
section
variable {P : Program} {n : Nm} {l l' : Env} {C : World → Prop} {ops : Array Oper} {Q : Exit → Act → World → Prop} {rest : List Oper} {o : Oper} {K : Act → Prop}
/-! ### Control flow -/
theorem W.seq {x y : Code} (h : W P n x (Exit.then (wpp n.r P y Q) Q) l C) : W P n (.seq x y) Q l C := ⟨fun a w hs hc => wpp_seq (h.run a w hs hc)⟩
theorem W.reg {id : Nat} {l0 : List Oper} (h : OL P n l0.toArray Q l0 l C) : W P n (.region id l0.toArray false) Q l C := ⟨fun a w hs hc => wpp_region_lit (h.run a w hs hc)⟩
theorem W.regd {id : Nat} {l0 : List Oper} (hm : P.follows .mixedOrders = true) (hB : Region.lexB .any l0.toArray = true) (hC : ∀ w, C w → C { w with drawn := w.drawn + 1 })
    (h : QL P n l0.toArray C (fun a' => ∀ w', C w' → Q .normal a' w') l0 l) : W P n (.region id l0.toArray true) Q l C :=
  ⟨fun a w hs hc => wpp_region_quiet (C := C) hm hB (hC w hc) (by simpa using h.run a hs)⟩
theorem W.cond {x : Operand} {y z : Code} {b : Bool} (hx : evl l x = some (true, .bool b)) (ht : b = true → W P n y Q l C) (hf : b = false → W P n z Q l C) : W P n (.cond x y z) Q l C :=
  ⟨fun a w hs hc => wpp_cond_split (hs.eval hx rfl) (fun h => (ht h).run a w hs hc) (fun h => (hf h).run a w hs hc)⟩
theorem W.block {id : Nat} {c : Code} (h : W P n c (Exit.inBlock id Q) l C) : W P n (.block id c) Q l C := ⟨fun a w hs hc => wpp_block (h.run a w hs hc)⟩
theorem W.skip (h : At n Q .normal l C) : W P n .skip Q l C := ⟨fun a w hs hc => wpp_skip (h.run a w hs hc)⟩
theorem W.exit {id : Nat} (h : At n Q (.exit id) l C) : W P n (.exit id) Q l C := ⟨fun a w hs hc => wpp_exit (h.run a w hs hc)⟩
theorem W.ret (h : At n Q .ret l C) : W P n .ret Q l C := ⟨fun a w hs hc => wpp_ret (h.run a w hs hc)⟩
theorem W.label {i : Nat} (h : At n Q .normal l C) : W P n (.label i) Q l C := ⟨fun a w hs hc => wpp_label (h.run a w hs hc)⟩
theorem W.sub {c : Code} {C' : World → Prop} (hs : Sub l l') (hc : ∀ w, C w → C' w) (h : W P n c Q l' C') : W P n c Q l C := ⟨fun a w s c => h.run a w (s.sub hs) (hc w c)⟩
theorem At.sub {e : Exit} {C' : World → Prop} (hs : Sub l l') (hc : ∀ w, C w → C' w) (h : At n Q e l' C') : At n Q e l C := ⟨fun a w s c => h.run a w (s.sub hs) (hc w c)⟩
theorem At.next {y : Code} (h : W P n y Q l C) : At n (Exit.then (wpp n.r P y Q) Q) .normal l C := ⟨h.run⟩
theorem At.then_ret {k : Act → World → Prop} (h : At n Q .ret l C) : At n (Exit.then k Q) .ret l C := ⟨h.run⟩
theorem At.then_exit {k : Act → World → Prop} {id : Nat} (h : At n Q (.exit id) l C) : At n (Exit.then k Q) (.exit id) l C := ⟨h.run⟩
theorem At.in_ret {id : Nat} (h : At n Q .ret l C) : At n (Exit.inBlock id Q) .ret l C := ⟨h.run⟩
theorem At.in_normal {id : Nat} (h : At n Q .normal l C) : At n (Exit.inBlock id Q) .normal l C := ⟨h.run⟩
theorem At.in_exit {id : Nat} (h : At n Q .normal l C) : At n (Exit.inBlock id Q) (.exit id) l C := ⟨fun a w hs hc => by
  show if id = id then Q .normal a w else Q (.exit id) a w
  rw [if_pos rfl]; exact h.run a w hs hc⟩
theorem At.in_other {id id' : Nat} (hne : Nat.beq id' id = false) (h : At n Q (.exit id') l C) : At n (Exit.inBlock id Q) (.exit id') l C := ⟨fun a w hs hc => by
  show if id' = id then Q .normal a w else Q (.exit id') a w
  rw [if_neg (fun e => by rw [e, Nat.beq_refl] at hne; cases hne)]; exact h.run a w hs hc⟩
/-- a loop: 'g' is what the round's head is told by; each round lowers the measure -/
def Again (n : Nm) {G : Type} (Φ : G → Prop) (μ : G → Nat) (lg : G → Env) (Cg : G → World → Prop) (g : G) (a : Act) (w : World) : Prop :=
  ∃ g', Φ g' ∧ μ g' < μ g ∧ Sees n (lg g') a ∧ Cg g' w
theorem W.loop {c : Code} {G : Type} (Φ : G → Prop) (μ : G → Nat) (lg : G → Env) (Cg : G → World → Prop) (g0 : G) (h0 : Φ g0) (hs0 : Sub l (lg g0)) (hc0 : ∀ w, C w → Cg g0 w)
    (body : ∀ g, Φ g → W P n c (Exit.then (Again n Φ μ lg Cg g) Q) (lg g) (Cg g)) : W P n (.loop c) Q l C := by
  have key : ∀ m g, μ g < m → Φ g → ∀ a w, Sees n (lg g) a → Cg g w → roundsP n.r P c Q m a w := by
    intro m
    induction m with
    | zero => intro g h; omega
    | succ m ih =>
      intro g hm hg a w hs hc
      show wpp n.r P c (Exit.then (roundsP n.r P c Q m) Q) a w
      refine wpp_mono ((body g hg).run a w hs hc) fun e a' w' hq => ?_
      cases e with
      | normal =>
        obtain ⟨g', hg', hlt, hs', hc'⟩ := hq
        exact ih g' (by omega) hg' a' w' hs' hc'
      | _ => exact hq
  exact ⟨fun a w hs hc => wpp_loop _ (key (μ g0 + 1) g0 (by omega) h0 a w (hs.sub hs0) (hc0 w hc))⟩
theorem At.again {G : Type} {Φ : G → Prop} {μ : G → Nat} {lg : G → Env} {Cg : G → World → Prop} {g : G} (g' : G) (hg : Φ g') (hm : μ g' < μ g) (hs : Sub l (lg g')) (hc : ∀ w, C w → Cg g' w) :
    At n (Exit.then (Again n Φ μ lg Cg g) Q) .normal l C := ⟨fun a w s c => ⟨g', hg, hm, s.sub hs, hc w c⟩⟩
/-! ### Entering and leaving a function -/
def argEnv : Nat → List Value → Env
  | _, [] => []
  | i, v :: r => (i, true, v) :: argEnv (i + 1) r
theorem look_argEnv : ∀ (vs : List Value) (i t : Nat) (c : Bool) (v : Value), look (argEnv i vs) t = some (c, v) → c = true ∧ i ≤ t ∧ vs[t - i]? = some v := by
  intro vs
  induction vs with
  | nil => intro i t c v h; cases h
  | cons u r ih =>
    intro i t c v h
    simp only [argEnv, look] at h
    by_cases e : i = t
    · subst e
      rw [Nat.beq_refl, cond_true] at h
      simp only [Option.some.injEq, Prod.mk.injEq] at h
      exact ⟨h.1.symm, Nat.le_refl _, by simp [h.2]⟩
    · rw [show Nat.beq i t = false from by rw [Bool.eq_false_iff]; intro hb; exact e (Nat.eq_of_beq_eq_true hb), cond_false] at h
      obtain ⟨h1, h2, h3⟩ := ih (i + 1) t c v h
      refine ⟨h1, by omega, ?_⟩
      rw [show t - i = (t - (i + 1)) + 1 from by omega, List.getElem?_cons_succ]; exact h3
theorem sees_args {n : Nat} {args : Array Value} (h : args.size ≤ n) : Sees ⟨n, [], none⟩ (argEnv 0 args.toList) { tmps := args ++ Array.replicate (n - args.size) undef, defers := [] } := by
  refine ⟨rfl, by simp; omega, fun t c v ht => ?_⟩
  obtain ⟨rfl, _, h3⟩ := look_argEnv _ 0 t c v ht
  have h4 : args[t]? = some v := by simpa using h3
  have h5 : t < args.size := by
    rcases Nat.lt_or_ge t args.size with hl | hl
    · exact hl
    · rw [Array.getElem?_eq_none hl] at h4; cases h4
  show (args ++ _)[t]? = some v
  rw [Array.getElem?_append_left h5]; exact h4
theorem enter {f : FuncId} {fn : Func} {c : Code} {args : List Value} {R : Ending → World → Prop} {w : World} {m : Nat} (hf : P.funcs[f]? = some fn) (hb : fn.body = some c) (hn : fn.ntmps = m) (ha : Nat.ble args.length m = true)
    (hC : C w) (h : W P ⟨m, [], none⟩ c (bodyPost P fn R) (argEnv 0 args) C) : Calls P f args.toArray w R := by
  subst hn
  exact calls_of_wpp hf hb (h.run _ w (by have := sees_args (args := args.toArray) (n := fn.ntmps) (by simpa using Nat.le_of_ble_eq_true ha); simpa using this) hC)
theorem At.fin0 {m : Nat} {r : Option Nat} {fn : Func} {R : Ending → World → Prop} (hr : fn.results = #[]) (h : ∀ w, C w → R (.returned (.tuple #[])) w) : At ⟨m, [], r⟩ (bodyPost P fn R) .ret l C :=
  ⟨fun a w hs hc => ⟨hs.df, .tuple #[], by simp [results, hr], h w hc⟩⟩
theorem At.fin1 {m : Nat} {r : Option Nat} {fn : Func} {R : Ending → World → Prop} {t : Nat} {v : Value} (hr : fn.results = #[.tmp t]) (ht : look l t = some (true, v)) (h : ∀ w, C w → R (.returned v) w) : At ⟨m, [], r⟩ (bodyPost P fn R) .ret l C :=
  ⟨fun a w hs hc => ⟨hs.df, v, by have := hs.at_ t true v ht; simp [results, hr, Array.getD_eq_getD_getElem?, this], h w hc⟩⟩
theorem At.fin2 {m : Nat} {r : Option Nat} {fn : Func} {R : Ending → World → Prop} {t u : Nat} {v v' : Value} (hr : fn.results = #[.tmp t, .tmp u]) (ht : look l t = some (true, v)) (hu : look l u = some (true, v'))
    (h : ∀ w, C w → R (.returned (.tuple #[v, v'])) w) : At ⟨m, [], r⟩ (bodyPost P fn R) .ret l C :=
  ⟨fun a w hs hc => ⟨hs.df, .tuple #[v, v'], by have h1 := hs.at_ t true v ht; have h2 := hs.at_ u true v' hu; simp [results, hr, Array.getD_eq_getD_getElem?, h1, h2], h w hc⟩⟩
theorem At.fin3 {m : Nat} {r : Option Nat} {fn : Func} {R : Ending → World → Prop} {t u x : Nat} {v v' v'' : Value} (hr : fn.results = #[.tmp t, .tmp u, .tmp x]) (ht : look l t = some (true, v)) (hu : look l u = some (true, v'))
    (hx : look l x = some (true, v'')) (h : ∀ w, C w → R (.returned (.tuple #[v, v', v''])) w) : At ⟨m, [], r⟩ (bodyPost P fn R) .ret l C :=
  ⟨fun a w hs hc => ⟨hs.df, .tuple #[v, v', v''], by have h1 := hs.at_ t true v ht; have h2 := hs.at_ u true v' hu; have h3 := hs.at_ x true v'' hx; simp [results, hr, Array.getD_eq_getD_getElem?, h1, h2, h3], h w hc⟩⟩
theorem At.end_ {fn : Func} {R : Ending → World → Prop} (h : At n (bodyPost P fn R) .ret l C) : At n (bodyPost P fn R) .normal l C := ⟨h.run⟩
/-! ### Lists of operations -/
theorem QL.nil (h : At n Q .normal l C) : QL P n ops C (fun a' => ∀ w', C w' → Q .normal a' w') [] l := ⟨fun a hs w hc => h.run a w hs hc⟩
theorem OL.nil (h : At n Q .normal l C) : OL P n ops Q [] l C := ⟨fun a w hs hc => h.run a w hs hc⟩
theorem QL.op {d : Nat} {c : Bool} {v : Value} (hg : Guard l ops o.guard c) (hd : o.dst = some d) (hn : Nat.ble (d + 1) n.n = true) (hv : Pev P n l C o c v)
    (k : QL P n ops C K rest ((d, c, v) :: l)) : QL P n ops C K (o :: rest) l := by
  have hn' := Nat.le_of_ble_eq_true hn
  refine ⟨fun a hs => ?_⟩
  unfold wpQuiet
  rw [hg.wanted hs]
  cases c with
  | true => exact ⟨v, fun w hw => hv.run rfl a w hs hw, by rw [hd]; exact k.run _ (hs.put hn' true v)⟩
  | false => rw [hd]; exact k.run _ (hs.put hn' false v)
theorem OL.op {d : Nat} {c : Bool} {v : Value} (hg : Guard l ops o.guard c) (hd : o.dst = some d) (hn : Nat.ble (d + 1) n.n = true) (hv : Pev P n l C o c v)
    (k : OL P n ops Q rest ((d, c, v) :: l) C) : OL P n ops Q (o :: rest) l C := by
  have hn' := Nat.le_of_ble_eq_true hn
  refine ⟨fun a w hs hc => ?_⟩
  unfold wpList
  rw [hg.wanted hs]
  cases c with
  | true =>
    refine .inl (Oper.wp_of_quiet (C := C) (K := fun a' => ∀ w', C w' → wpList P ops Q rest a' w') hc (fun a' w' hw' h => h w' hw') ⟨v, fun w hw => hv.run rfl a w hs hw, fun w' hw' => ?_⟩)
    rw [hd]; exact k.run _ w' (hs.put hn' true v) hw'
  | false => rw [hd]; exact k.run _ w (hs.put hn' false v) hc
/-- a store: no value -/
theorem OL.store_ {C' : World → Prop} (hg : o.guard = none) (hd : o.dst = none) (hv : ∀ a w, Sees n l a → C w → ∃ w', (execOp a.eval o).run P w = .ok .skip w' ∧ C' w')
    (k : OL P n ops Q rest l C') : OL P n ops Q (o :: rest) l C := by
  refine ⟨fun a w hs hc => ?_⟩
  refine wpList_plain hg fun K hK => ?_
  obtain ⟨w', hr, hc'⟩ := hv a w hs hc
  show Oper.upon P o a K Q ((execOp a.eval o).run P w)
  rw [hr]
  show K (a.put o.dst undef) w'
  rw [hd]
  exact hK _ _ (k.run a w' hs hc')
/-! ### Several steps at once -/
theorem OL.nx {y : Code} (h : W P n y Q l C) : OL P n ops (Exit.then (wpp n.r P y Q) Q) [] l C := OL.nil (At.next h)
theorem W.sr {id : Nat} {l0 : List Oper} {y : Code} (h : OL P n l0.toArray (Exit.then (wpp n.r P y Q) Q) l0 l C) : W P n (.seq (.region id l0.toArray false) y) Q l C := W.seq (W.reg h)
theorem OL.nsr {id : Nat} {l0 : List Oper} {y : Code} (h : OL P n l0.toArray (Exit.then (wpp n.r P y Q) Q) l0 l C) : OL P n ops (Exit.then (wpp n.r P (Code.seq (.region id l0.toArray false) y) Q) Q) [] l C := OL.nx (W.sr h)
theorem W.sk {y : Code} (h : W P n y Q l C) : W P n .skip (Exit.then (wpp n.r P y Q) Q) l C := W.skip (At.next h)
theorem W.sb {id : Nat} {c y : Code} (h : W P n c (Exit.inBlock id (Exit.then (wpp n.r P y Q) Q)) l C) : W P n (.seq (.block id c) y) Q l C := W.seq (W.block h)
inductive Rch : (Exit → Act → World → Prop) → (Exit → Act → World → Prop) → Prop where
  | nil {Q : Exit → Act → World → Prop} : Rch Q Q
  | th {k : Act → World → Prop} {Q Q' : Exit → Act → World → Prop} (h : Rch Q Q') : Rch (Exit.then k Q) Q'
  | bl {id : Nat} {Q Q' : Exit → Act → World → Prop} (h : Rch Q Q') : Rch (Exit.inBlock id Q) Q'
theorem Rch.ret {Q' : Exit → Act → World → Prop} (h : Rch Q Q') (k : At n Q' .ret l C) : At n Q .ret l C := by
  induction h with
  | nil => exact k
  | th _ ih => exact At.then_ret (ih k)
  | bl _ ih => exact At.in_ret (ih k)
theorem W.rt {Q' : Exit → Act → World → Prop} (h : At n Q' .ret l C) (hr : Rch Q Q' := by (repeat (first | with_reducible apply Rch.th | with_reducible apply Rch.bl | exact Rch.nil)); first | done | fail) : W P n .ret Q l C := W.ret (hr.ret h)
inductive Ech (id : Nat) : (Exit → Act → World → Prop) → (Exit → Act → World → Prop) → Prop where
  | hit {Q : Exit → Act → World → Prop} : Ech id (Exit.inBlock id Q) Q
  | th {k : Act → World → Prop} {Q Q' : Exit → Act → World → Prop} (h : Ech id Q Q') : Ech id (Exit.then k Q) Q'
  | bl {id' : Nat} {Q Q' : Exit → Act → World → Prop} (hne : Nat.beq id id' = false) (h : Ech id Q Q') : Ech id (Exit.inBlock id' Q) Q'
theorem Ech.exit {id : Nat} {Q' : Exit → Act → World → Prop} (h : Ech id Q Q') (k : At n Q' .normal l C) : At n Q (.exit id) l C := by
  induction h with
  | hit => exact At.in_exit k
  | th _ ih => exact At.then_exit (ih k)
  | bl hne _ ih => exact At.in_other hne (ih k)
theorem W.xt {id : Nat} {Q' : Exit → Act → World → Prop} (h : At n Q' .normal l C) (he : Ech id Q Q' := by (repeat (first | with_reducible exact Ech.hit | with_reducible apply Ech.th | (with_reducible apply Ech.bl; rfl))); first | done | fail) : W P n (.exit id) Q l C := W.exit (he.exit h)
/-- a condition, told as a proposition -/
theorem W.cnd {x : Operand} {y z : Code} {b : Bool} {p q : Prop} (ht : p → W P n y Q l C) (hf : q → W P n z Q l C) (hx : evl l x = some (true, .bool b) := by rfl)
    (hp : (b = true) = p := by ((try simp only [Bool.and_eq_true, Bool.or_eq_true, Bool.not_eq_true', Bool.and_eq_false_iff, Bool.or_eq_false_iff, Bool.not_eq_false', decide_eq_true_eq, decide_eq_false_iff_not, Int.not_lt, Int.not_le]); rfl))
    (hq : (b = false) = q := by ((try simp only [Bool.and_eq_true, Bool.or_eq_true, Bool.not_eq_true', Bool.and_eq_false_iff, Bool.or_eq_false_iff, Bool.not_eq_false', decide_eq_true_eq, decide_eq_false_iff_not, Int.not_lt, Int.not_le]); rfl)) : W P n (.cond x y z) Q l C :=
  W.cond hx (fun h => ht (hp ▸ h)) (fun h => hf (hq ▸ h))
section
variable {dd : Nat} {v : Value} {b : Bool} {op : Op} {ty : TypeId} {pos : String} {af : Array Edge} {j d : Nat}
theorem oop (hn : Nat.ble (dd + 1) n.n = true) (hv : Pev P n l C ⟨some dd, op, ty, pos, af, none⟩ true v) (k : OL P n ops Q rest ((dd, true, v) :: l) C) : OL P n ops Q (⟨some dd, op, ty, pos, af, none⟩ :: rest) l C := OL.op Guard.none rfl hn hv k
theorem oy (hd : (ops[j]?).bind (·.dst) = some d) (h : look l d = some (true, .bool b)) (hn : Nat.ble (dd + 1) n.n = true) (hv : Pev P n l C ⟨some dd, op, ty, pos, af, some (j, true)⟩ b v) (k : OL P n ops Q rest ((dd, b, v) :: l) C) : OL P n ops Q (⟨some dd, op, ty, pos, af, some (j, true)⟩ :: rest) l C := OL.op (Guard.yes hd h) rfl hn hv k
theorem ono (hd : (ops[j]?).bind (·.dst) = some d) (h : look l d = some (true, .bool b)) (hn : Nat.ble (dd + 1) n.n = true) (hv : Pev P n l C ⟨some dd, op, ty, pos, af, some (j, false)⟩ (!b) v) (k : OL P n ops Q rest ((dd, !b, v) :: l) C) : OL P n ops Q (⟨some dd, op, ty, pos, af, some (j, false)⟩ :: rest) l C := OL.op (Guard.no hd h) rfl hn hv k
theorem qop (hn : Nat.ble (dd + 1) n.n = true) (hv : Pev P n l C ⟨some dd, op, ty, pos, af, none⟩ true v) (k : QL P n ops C K rest ((dd, true, v) :: l)) : QL P n ops C K (⟨some dd, op, ty, pos, af, none⟩ :: rest) l := QL.op Guard.none rfl hn hv k
theorem qy (hd : (ops[j]?).bind (·.dst) = some d) (h : look l d = some (true, .bool b)) (hn : Nat.ble (dd + 1) n.n = true) (hv : Pev P n l C ⟨some dd, op, ty, pos, af, some (j, true)⟩ b v) (k : QL P n ops C K rest ((dd, b, v) :: l)) : QL P n ops C K (⟨some dd, op, ty, pos, af, some (j, true)⟩ :: rest) l := QL.op (Guard.yes hd h) rfl hn hv k
theorem qno (hd : (ops[j]?).bind (·.dst) = some d) (h : look l d = some (true, .bool b)) (hn : Nat.ble (dd + 1) n.n = true) (hv : Pev P n l C ⟨some dd, op, ty, pos, af, some (j, false)⟩ (!b) v) (k : QL P n ops C K rest ((dd, !b, v) :: l)) : QL P n ops C K (⟨some dd, op, ty, pos, af, some (j, false)⟩ :: rest) l := QL.op (Guard.no hd h) rfl hn hv k
end
/-- an operation of any guard -/
theorem OL.opA {d : Nat} {c : Bool} {v : Value} (hv : Pev P n l C o c v) (k : OL P n ops Q rest ((d, c, v) :: l) C) (hg : Guard l ops o.guard c := by exact Guard.au) (hd : o.dst = some d := by rfl) (hn : Nat.ble (d + 1) n.n = true := by rfl) : OL P n ops Q (o :: rest) l C := OL.op hg hd hn hv k
theorem QL.opA {d : Nat} {c : Bool} {v : Value} (hv : Pev P n l C o c v) (k : QL P n ops C K rest ((d, c, v) :: l)) (hg : Guard l ops o.guard c := by exact Guard.au) (hd : o.dst = some d := by rfl) (hn : Nat.ble (d + 1) n.n = true := by rfl) : QL P n ops C K (o :: rest) l := QL.op hg hd hn hv k
end
end Go.Eng

/- The rules for operations: moves, arithmetic, comparisons, addresses, loads, calls, new blocks, stores. General: any program P. No condition. -/
namespace Go.Eng
open Go.RowKit
/-! ### What is read off the program's types -/
def lit : Nat → Option Nat
  | 0 => some 0 | 1 => some 1 | 2 => some 2 | 3 => some 3 | 4 => some 4 | 5 => some 5 | 6 => some 6 | 7 => some 7 | 8 => some 8 | 9 => some 9 | 10 => some 10 | 11 => some 11 | 12 => some 12 | 13 => some 13 | 14 => some 14 | 15 => some 15 | 16 => some 16 | 17 => some 17 | 18 => some 18 | 19 => some 19 | 20 => some 20 | 21 => some 21 | 22 => some 22 | 23 => some 23 | 24 => some 24 | 25 => some 25 | 26 => some 26 | 27 => some 27 | 28 => some 28 | 29 => some 29 | 30 => some 30 | 31 => some 31 | 32 => some 32 | 33 => some 33 | 34 => some 34 | 35 => some 35 | 36 => some 36 | 37 => some 37 | 38 => some 38 | 39 => some 39 | 40 => some 40 | 41 => some 41 | 42 => some 42 | 43 => some 43 | 44 => some 44 | 45 => some 45 | 46 => some 46 | 47 => some 47 | 48 => some 48 | 49 => some 49 | 50 => some 50 | 51 => some 51 | 52 => some 52 | 53 => some 53 | 54 => some 54 | 55 => some 55 | 56 => some 56 | 57 => some 57 | 58 => some 58 | 59 => some 59 | 60 => some 60 | 61 => some 61 | 62 => some 62 | 63 => some 63 | 64 => some 64 | 65 => some 65 | 66 => some 66 | 67 => some 67 | 68 => some 68 | 69 => some 69 | 70 => some 70 | 71 => some 71 | 72 => some 72 | 73 => some 73 | 74 => some 74 | 75 => some 75 | 76 => some 76 | 77 => some 77 | 78 => some 78 | 79 => some 79 | 80 => some 80 | 81 => some 81 | 82 => some 82 | 83 => some 83 | 84 => some 84 | 85 => some 85 | 86 => some 86 | 87 => some 87 | 88 => some 88 | 89 => some 89 | 90 => some 90 | 91 => some 91 | 92 => some 92 | 93 => some 93 | 94 => some 94 | 95 => some 95 | 96 => some 96 | 97 => some 97 | 98 => some 98 | 99 => some 99 | 100 => some 100 | 101 => some 101 | 102 => some 102 | 103 => some 103 | 104 => some 104 | 105 => some 105 | 106 => some 106 | 107 => some 107 | 108 => some 108 | 109 => some 109 | 110 => some 110 | 111 => some 111 | 112 => some 112 | 113 => some 113 | 114 => some 114 | 115 => some 115 | 116 => some 116 | 117 => some 117 | 118 => some 118 | 119 => some 119 | 120 => some 120 | 121 => some 121 | 122 => some 122 | 123 => some 123 | 124 => some 124 | 125 => some 125 | 126 => some 126 | 127 => some 127 | 128 => some 128
  | _ => none
theorem lit_eq {a b : Nat} (h : lit a = some b) : a = b := by
  unfold lit at h
  split at h <;> simp_all
def scalB (P : Program) (t : TypeId) : Bool := match P.underlying t with | some (.struct _) => false | some (.array ..) => false | some _ => true | none => false
def sizeN (P : Program) (t : TypeId) : Option Nat := match P.info? t with | some i => lit i.size | none => none
def aggN (P : Program) (t : TypeId) : Option Nat := match P.underlying t with
  | some (.struct _) => sizeN P t
  | some (.array ..) => sizeN P t
  | _ => none
def fldAt (P : Program) (t : TypeId) (i : Nat) : Option Nat := match P.underlying t with
  | some (.struct fs) => match fs[i]? with
    | some f => match sizeN P f.type with
      | some 0 => none
      | some (_ + 1) => lit f.offset
      | none => none
    | none => none
  | _ => none
def slElem (P : Program) (t : TypeId) : Option (TypeId × Nat) := match P.underlying t with
  | some (.slice e) => match sizeN P e with
    | some k => some (e, k)
    | none => none
  | _ => none
def arrElem (P : Program) (t : TypeId) : Option (Nat × Nat) := match P.underlying t with
  | some (.array n e) => match sizeN P e with
    | some k => some (n, k)
    | none => none
  | _ => none
def intK (P : Program) (t : TypeId) : Option IntKind := match P.underlying t with | some (.int k) => some k | _ => none
def boolB (P : Program) (t : TypeId) : Bool := match P.underlying t with | some .bool => true | _ => false
def strB (P : Program) (t : TypeId) : Bool := match P.underlying t with | some .string => true | _ => false
def callable (P : Program) (f : FuncId) : Bool := match P.funcs[f]? with | some fn => !(fn.name == "runtime.NumGoroutine") && fn.body.isSome | none => false
section types
variable {P : Program} {t : TypeId}
theorem run_isAgg_scal (h : scalB P t = true) (w : World) : (isAgg t).run P w = .ok false w := by
  unfold scalB at h
  cases hu : P.underlying t with
  | none => simp [hu] at h
  | some d =>
    unfold isAgg
    rw [Sem.run_bind, run_underlying hu w]
    rw [hu] at h
    cases d <;> simp_all
theorem sizeN_info {k : Nat} (h : sizeN P t = some k) : ∃ i, P.info? t = some i ∧ i.size = k := by
  unfold sizeN at h
  cases hq : P.info? t with
  | none => simp [hq] at h
  | some i => rw [hq] at h; exact ⟨i, rfl, lit_eq h⟩
theorem aggN_info {k : Nat} (h : aggN P t = some k) : ∃ d, P.underlying t = some d ∧ (match d with | .struct _ | .array _ _ => true | _ => false) = true ∧ sizeN P t = some k := by
  unfold aggN at h
  cases hu : P.underlying t with
  | none => simp [hu] at h
  | some d =>
    refine ⟨d, rfl, ?_⟩
    rw [hu] at h
    cases d <;> simp_all
theorem run_isAgg_agg {k : Nat} (h : aggN P t = some k) (w : World) : (isAgg t).run P w = .ok true w := by
  obtain ⟨d, hu, hd, _⟩ := aggN_info h
  unfold isAgg
  rw [Sem.run_bind, run_underlying hu w]
  cases d <;> simp_all
theorem run_sizeN {k : Nat} (h : sizeN P t = some k) (w : World) : (sizeOf t).run P w = .ok k w := by
  obtain ⟨i, hq, hs⟩ := sizeN_info h
  simp [sizeOf, typeInfo, hq, hs]
theorem aggN_size {k : Nat} (h : aggN P t = some k) : sizeN P t = some k := (aggN_info h).choose_spec.2.2
theorem run_loadVar_scal (h : scalB P t = true) {w : World} {a : Addr} {v : Value} (hc : w.cell? a = some v) : (loadVar t a).run P w = .ok v w := by
  simp [loadVar, Sem.run_bind, run_isAgg_scal h, hc]
/-- the cells from an address on -/
def CellsAt (w : World) (a : Addr) (vs : List Value) : Prop := ∀ j v, vs[j]? = some v → w.cell? (a.add j) = some v
theorem run_loadVar_agg {vs : List Value} (h : aggN P t = some vs.length) {w : World} {a : Addr} (hc : CellsAt w a vs) : (loadVar t a).run P w = .ok (.agg vs.toArray) w := by
  have hl := run_loadCells_list (P := P) w a vs hc
  simp [loadVar, Sem.run_bind, run_isAgg_agg h, run_sizeN (aggN_size h), hl]
end types
theorem add_zero_ (a : Addr) : a.add 0 = a := rfl
theorem add_mid {b o : Nat} (n : Nat) : (⟨b, o, none⟩ : Addr).add n = ⟨b, o + n, none⟩ := by
  unfold Addr.add; split
  · subst_vars; rfl
  · rfl
theorem add_block (a : Addr) (n : Nat) : (a.add n).block = a.block := by unfold Addr.add; split <;> rfl
theorem add_add (a : Addr) (i j : Nat) : (a.add i).add j = a.add (i + j) := by
  unfold Addr.add
  by_cases hi : i = 0 <;> by_cases hj : j = 0 <;> simp [hi, hj, Nat.add_assoc]
/-! ### Values without a look at memory -/
section
variable {P : Program} {n : Nm} {l : Env} {C : World → Prop} {c : Bool} {d : Option Nat} {ty : TypeId} {pos : String} {af : Array Edge} {g : Option (Nat × Bool)}
theorem Pev.of_run {o : Oper} {v : Value} (h : c = true → ∀ a w, Sees n l a → C w → (execOp a.eval o).run P w = .ok (.value v) w) : Pev P n l C o c v :=
  ⟨fun hc a w hs hw => by rw [h hc a w hs hw]; exact ⟨rfl, rfl⟩⟩
theorem Pev.no {o : Oper} : Pev P n l C o false (.bool false) := ⟨fun h => by cases h⟩
theorem Pev.move {x : Operand} {cx : Bool} {v : Value} (hx : evl l x = some (cx, v)) (hc : c = true → cx = true) : Pev P n l C ⟨d, .move x, ty, pos, af, g⟩ c v :=
  .of_run fun h a w hs hw => by show Result.ok (Next.value (a.eval x)) w = _; rw [hs.eval hx (hc h)]
theorem Pev.assign {x : Operand} {cx : Bool} {v : Value} (hx : evl l x = some (cx, v)) (hc : c = true → cx = true) : Pev P n l C ⟨d, .assign x, ty, pos, af, g⟩ c v :=
  .of_run fun h a w hs hw => by show Result.ok (Next.value (a.eval x)) w = _; rw [hs.eval hx (hc h)]
theorem run_pick {a : Act} {w : World} {x y z : Operand} {b : Bool} (hx : a.eval x = .bool b) : (execOp a.eval ⟨d, .pick x y z, ty, pos, af, g⟩).run P w = .ok (.value (bif b then a.eval y else a.eval z)) w := by
  simp only [execOp, hx, asBool]
  cases b <;> rfl
theorem Pev.pick_and {x y : Operand} {cx cy b p : Bool} (hx : evl l x = some (cx, .bool b)) (hc : c = true → cx = true) (hy : evl l y = some (cy, .bool p)) (hcy : (c && b) = true → cy = true) :
    Pev P n l C ⟨d, .pick x y (.const (.bool false)), ty, pos, af, g⟩ c (.bool (b && p)) :=
  .of_run fun h a w hs hw => by
    rw [run_pick (hs.eval hx (hc h))]
    cases b with
    | false => rfl
    | true => rw [cond_true, hs.eval hy (hcy (by simp [h]))]; rfl
theorem Pev.pick_or {x y : Operand} {cx cy b p : Bool} (hx : evl l x = some (cx, .bool b)) (hc : c = true → cx = true) (hy : evl l y = some (cy, .bool p)) (hcy : (c && !b) = true → cy = true) :
    Pev P n l C ⟨d, .pick x (.const (.bool true)) y, ty, pos, af, g⟩ c (.bool (b || p)) :=
  .of_run fun h a w hs hw => by
    rw [run_pick (hs.eval hx (hc h))]
    cases b with
    | true => rfl
    | false => rw [cond_false, hs.eval hy (hcy (by simp [h]))]; rfl
theorem Pev.nil_ptr {x : Operand} {cx : Bool} {q : Addr} (hx : evl l x = some (cx, .pointer (some q))) (hc : c = true → cx = true) : Pev P n l C ⟨d, .nilCheck x, ty, pos, af, g⟩ c (.pointer (some q)) :=
  .of_run fun h a w hs hw => by simp only [execOp, hs.eval hx (hc h)]; rfl
/-! binary operations -/
structure Bin (P : Program) (op : BinOp) (t : TypeId) (u v r : Value) : Prop where
  run : ∀ (x y : Operand) (w : World), (do eqGuard op t x y u v; binOp op t u v : Sem Value).run P w = .ok r w
theorem Pev.bin {op : BinOp} {t yt : TypeId} {x y : Operand} {cx cy : Bool} {u v r : Value} (hx : evl l x = some (cx, u)) (hcx : c = true → cx = true) (hy : evl l y = some (cy, v)) (hcy : c = true → cy = true)
    (hb : c = true → Bin P op t u v r) : Pev P n l C ⟨d, .binOp op t x y yt, ty, pos, af, g⟩ c r :=
  .of_run fun h a w hs hw => by
    have := (hb h).run x y w
    simp only [execOp, hs.eval hx (hcx h), hs.eval hy (hcy h), Sem.run_bind, this, Result.andThen_ok]
    rfl
theorem guard_int {op : BinOp} {t : TypeId} {x y : Operand} {k k' : IntKind} {a b : Int} {w : World} : (eqGuard op t x y (.int k a) (.int k' b)).run P w = .ok () w := by cases op <;> rfl
theorem guard_str {op : BinOp} {t : TypeId} {x y : Operand} {a b : ByteArray} {w : World} : (eqGuard op t x y (.string a) (.string b)).run P w = .ok () w := by cases op <;> rfl
theorem guard_bool {op : BinOp} {t : TypeId} {x y : Operand} {a b : Bool} {w : World} : (eqGuard op t x y (.bool a) (.bool b)).run P w = .ok () w := by cases op <;> rfl
variable {t : TypeId} {k : IntKind} {a b : Int}
theorem int_beq (a b : Int) : (a == b) = decide (a = b) := by by_cases h : a = b <;> simp [h]
theorem bin_int {op : BinOp} {r : Value} (h : (binOp op t (.int k a) (.int k b) : Sem Value) = pure r) : Bin P op t (.int k a) (.int k b) r := ⟨fun x y w => by
  rw [Sem.run_bind, guard_int, Result.andThen_ok, h]; rfl⟩
theorem Bin.lss : Bin P .lss t (.int k a) (.int k b) (.bool (decide (a < b))) := bin_int (by simp [binOp, Op.intCmp])
def NotLt (a b : Int) : Prop := ¬ a < b
theorem Bin.lss_nof (h : NotLt a b) : Bin P .lss t (.int k a) (.int k b) (.bool false) := bin_int (by simp only [NotLt] at h; simp [binOp, Op.intCmp, h])
theorem Bin.leq : Bin P .leq t (.int k a) (.int k b) (.bool (decide (a ≤ b))) := bin_int (by simp [binOp, Op.intCmp])
theorem Bin.gtr : Bin P .gtr t (.int k a) (.int k b) (.bool (decide (b < a))) := bin_int (by simp [binOp, Op.intCmp])
theorem Bin.geq : Bin P .geq t (.int k a) (.int k b) (.bool (decide (b ≤ a))) := bin_int (by simp [binOp, Op.intCmp])
theorem Bin.eql : Bin P .eql t (.int k a) (.int k b) (.bool (decide (a = b))) := bin_int (by simp only [binOp, Op.intCmp, ne_eq, not_true, if_false, int_beq])
theorem Bin.neq : Bin P .neq t (.int k a) (.int k b) (.bool (!decide (a = b))) := bin_int (by simp only [binOp, Op.intCmp, ne_eq, not_true, if_false, bne, int_beq])
theorem Bin.add : Bin P .add t (.int k a) (.int k b) (.int k (k.wrap (a + b))) := bin_int (by simp [binOp, Op.intArith])
theorem Bin.sub : Bin P .sub t (.int k a) (.int k b) (.int k (k.wrap (a - b))) := bin_int (by simp [binOp, Op.intArith])
theorem Bin.mul : Bin P .mul t (.int k a) (.int k b) (.int k (k.wrap (a * b))) := bin_int (by simp [binOp, Op.intArith])
theorem Bin.add_in (h : -9223372036854775808 ≤ a + b ∧ a + b ≤ 9223372036854775807) : Bin P .add t (.int .i64 a) (.int .i64 b) (.int .i64 (a + b)) := bin_int (by simp [binOp, Op.intArith, IntWalk.i64_in _ h])
theorem Bin.sub_in (h : -9223372036854775808 ≤ a - b ∧ a - b ≤ 9223372036854775807) : Bin P .sub t (.int .i64 a) (.int .i64 b) (.int .i64 (a - b)) := bin_int (by simp [binOp, Op.intArith, IntWalk.i64_in _ h])
theorem Bin.mul_in (h : -9223372036854775808 ≤ a * b ∧ a * b ≤ 9223372036854775807) : Bin P .mul t (.int .i64 a) (.int .i64 b) (.int .i64 (a * b)) := bin_int (by simp [binOp, Op.intArith, IntWalk.i64_in _ h])
theorem Bin.quo (h : b ≠ 0) : Bin P .quo t (.int k a) (.int k b) (.int k (k.wrap (a.tdiv b))) := bin_int (by simp [binOp, Op.intDiv, h])
theorem Bin.rem (h : b ≠ 0) : Bin P .rem t (.int k a) (.int k b) (.int k (a.tmod b)) := bin_int (by simp [binOp, Op.intDiv, h])
theorem Bin.quo_in (h : 0 ≤ a ∧ a ≤ 9223372036854775807 ∧ 1 ≤ b) : Bin P .quo t (.int .i64 a) (.int .i64 b) (.int .i64 (a / b)) := bin_int (by simp [binOp, Op.intDiv, IntWalk.i64_quo _ _ h]; omega)
theorem Bin.rem_in (h : 0 ≤ a ∧ 1 ≤ b) : Bin P .rem t (.int k a) (.int k b) (.int k (a % b)) := bin_int (by simp [binOp, Op.intDiv, Int.tmod_eq_emod_of_nonneg h.1]; omega)
theorem Bin.and : Bin P .and t (.int k a) (.int k b) (.int k (bits .and k a b)) := bin_int (by simp only [binOp, ne_eq, not_true, if_false]; exact intBits_and k a b)
theorem Bin.or : Bin P .or t (.int k a) (.int k b) (.int k (bits .or k a b)) := bin_int (by simp only [binOp, ne_eq, not_true, if_false]; exact intBits_or k a b)
theorem Bin.xor : Bin P .xor t (.int k a) (.int k b) (.int k (bits .xor k a b)) := bin_int (by simp only [binOp, ne_eq, not_true, if_false]; exact intBits_xor k a b)
theorem Bin.andNot : Bin P .andNot t (.int k a) (.int k b) (.int k (bits .andNot k a b)) := bin_int (by simp only [binOp, ne_eq, not_true, if_false]; exact intBits_andNot k a b)
theorem bin_shift {op : BinOp} {yk : IntKind} {r : Value} (h : (binOp op t (.int k a) (.int yk b) : Sem Value) = pure r) : Bin P op t (.int k a) (.int yk b) r := ⟨fun x y w => by
  rw [Sem.run_bind, guard_int, Result.andThen_ok, h]; rfl⟩
theorem Bin.shl {yk : IntKind} (h : 0 ≤ b ∧ b ≤ k.bits) : Bin P .shl t (.int k a) (.int yk b) (.int k (k.wrap (a * 2 ^ b.toNat))) := bin_shift (by simp only [binOp]; exact shift_shl k yk a b h.1 h.2)
theorem Bin.shr {yk : IntKind} (h : 0 ≤ b ∧ b ≤ k.bits) : Bin P .shr t (.int k a) (.int yk b) (.int k (a / 2 ^ b.toNat)) := bin_shift (by simp only [binOp]; exact shift_shr k yk a b h.1 h.2)
theorem bytes_beq (s u : ByteArray) : (s.toList == u.toList) = decide (s = u) := by
  rw [ByteArray.toList_eq, ByteArray.toList_eq]
  by_cases h : s = u
  · subst h; simp
  · have h2 : ¬ s.data.toList = u.data.toList := fun e => h (by cases s; cases u; simp_all)
    rw [decide_eq_false h]; exact beq_eq_false_iff_ne.2 h2
theorem bin_str {op : BinOp} {s u : ByteArray} {r : Value} (h : (binOp op t (.string s) (.string u) : Sem Value) = pure r) : Bin P op t (.string s) (.string u) r := ⟨fun x y w => by
  rw [Sem.run_bind, guard_str, Result.andThen_ok, h]; rfl⟩
theorem Bin.str_eql {s u : ByteArray} : Bin P .eql t (.string s) (.string u) (.bool (decide (s = u))) := bin_str (by simp only [binOp, Op.stringOp, bytes_beq])
theorem Bin.str_neq {s u : ByteArray} : Bin P .neq t (.string s) (.string u) (.bool (!decide (s = u))) := bin_str (by simp only [binOp, Op.stringOp, bytes_beq])
theorem Bin.str_add {s u : ByteArray} (h : s.size + u.size ≤ 9223372036854775807) : Bin P .add t (.string s) (.string u) (.string (s ++ u)) := bin_str (by
  simp only [binOp, Op.stringOp]
  rw [if_neg (by simp [IntKind.max, IntKind.signed, IntKind.bits]; omega)])
theorem Bin.str_lss {s u : ByteArray} : Bin P .lss t (.string s) (.string u) (.bool (Op.bytesLess s.toList u.toList)) := bin_str (by simp only [binOp, Op.stringOp])
theorem run_equalIn_bool {w : World} {p q : Bool} (dd : Nat) (hu : boolB P t = true) : (Op.equalIn (dd + 1) t (.bool p) (.bool q)).run P w = .ok (p == q) w := by
  unfold boolB at hu
  cases h : P.underlying t with
  | none => simp [h] at hu
  | some dd =>
    rw [h] at hu
    cases dd <;> simp at hu
    simp only [Op.equalIn, Sem.run_bind, run_underlying h, Result.andThen_ok]; rfl
theorem run_equal_bool {w : World} {p q : Bool} (hu : boolB P t = true) : (Op.equal t (.bool p) (.bool q)).run P w = .ok (p == q) w := run_equalIn_bool 9999 hu
theorem Bin.bool_eql {p q : Bool} (hu : boolB P t = true) : Bin P .eql t (.bool p) (.bool q) (.bool (p == q)) := ⟨fun x y w => by
  rw [Sem.run_bind, guard_bool, Result.andThen_ok]
  simp only [binOp, Sem.run_bind, run_equal_bool hu, Result.andThen_ok]; rfl⟩
theorem Bin.bool_neq {p q : Bool} (hu : boolB P t = true) : Bin P .neq t (.bool p) (.bool q) (.bool (p != q)) := ⟨fun x y w => by
  rw [Sem.run_bind, guard_bool, Result.andThen_ok]
  simp only [binOp, Sem.run_bind, run_equal_bool hu, Result.andThen_ok]; rfl⟩
theorem Pev.not {t : TypeId} {x : Operand} {cx p : Bool} (hx : evl l x = some (cx, .bool p)) (hc : c = true → cx = true) : Pev P n l C ⟨d, .unOp .not t x, ty, pos, af, g⟩ c (.bool (!p)) :=
  .of_run fun h a w hs hw => by simp only [execOp, hs.eval hx (hc h), Op.unary, Sem.run_bind]; rfl
theorem Pev.neg {t : TypeId} {x : Operand} {cx : Bool} {m : Int} (hx : evl l x = some (cx, .int k m)) (hc : c = true → cx = true) : Pev P n l C ⟨d, .unOp .neg t x, ty, pos, af, g⟩ c (.int k (k.wrap (0 - m))) :=
  .of_run fun h a w hs hw => by simp only [execOp, hs.eval hx (hc h), Op.unary, Op.intArith, Sem.run_bind]; rfl
theorem Pev.neg_in {t : TypeId} {x : Operand} {cx : Bool} {m : Int} (hx : evl l x = some (cx, .int .i64 m)) (hc : c = true → cx = true) (hm : -9223372036854775807 ≤ m ∧ m ≤ 9223372036854775807) :
    Pev P n l C ⟨d, .unOp .neg t x, ty, pos, af, g⟩ c (.int .i64 (-m)) := by
  have := Pev.neg (P := P) (n := n) (C := C) (d := d) (ty := ty) (pos := pos) (af := af) (g := g) (t := t) hx hc
  rwa [IntWalk.i64_in _ (by omega), Int.zero_sub] at this
theorem Pev.extract {x : Operand} {cx : Bool} {vs : List Value} {i : Nat} {v : Value} (hx : evl l x = some (cx, .tuple vs.toArray)) (hc : c = true → cx = true) (hv : vs[i]? = some v) : Pev P n l C ⟨d, .extract x i, ty, pos, af, g⟩ c v :=
  .of_run fun h a w hs hw => by
    have hv' : vs.toArray[i]? = some v := by simpa using hv
    simp only [execOp, hs.eval hx (hc h), Instr.extract, hv', Sem.run_bind]; rfl
theorem run_conv_int {src dst : TypeId} {kd : IntKind} {m : Int} {w : World} (hs : (P.underlying src).isSome = true) (hk : intK P dst = some kd) : (convert src dst (.int k m)).run P w = .ok (.int kd (kd.wrap m)) w := by
  cases h1 : P.underlying src with
  | none => simp [h1] at hs
  | some ds =>
    unfold intK at hk
    cases h2 : P.underlying dst with
    | none => simp [h2] at hk
    | some dd =>
      rw [h2] at hk
      cases dd <;> simp at hk
      subst hk
      simp only [convert, Sem.run_bind, run_underlying h1, run_underlying h2, Result.andThen_ok]
      cases ds <;> rfl
theorem Pev.conv_int {src dst : TypeId} {x : Operand} {cx : Bool} {kd : IntKind} {m : Int} (hx : evl l x = some (cx, .int k m)) (hc : c = true → cx = true) (hs : (P.underlying src).isSome = true) (hk : intK P dst = some kd) :
    Pev P n l C ⟨d, .convert src dst x, ty, pos, af, g⟩ c (.int kd (kd.wrap m)) :=
  .of_run fun h a w hs' hw => by
    simp only [execOp, hs'.eval hx (hc h), Sem.run_bind, run_conv_int hs hk, Result.andThen_ok]; rfl
theorem run_len_str {w : World} {t ty : TypeId} {s : ByteArray} (hu : strB P t = true) : (Builtin.len_ #[t] ty #[.string s]).run P w = .ok (.int .i64 s.size) w := by
  unfold strB at hu
  cases h : P.underlying t with
  | none => simp [h] at hu
  | some dd =>
    rw [h] at hu
    cases dd <;> simp at hu
    simp [Builtin.len_, run_underlying h, goInt]
theorem run_len_slice {w : World} {t ty : TypeId} {q : Option Addr} {m cp : Nat} {e : TypeId × Nat} (hu : slElem P t = some e) : (Builtin.len_ #[t] ty #[.slice q m cp]).run P w = .ok (.int .i64 m) w := by
  unfold slElem at hu
  cases h : P.underlying t with
  | none => simp [h] at hu
  | some dd =>
    rw [h] at hu
    cases dd <;> simp at hu
    simp [Builtin.len_, run_underlying h, goInt]
theorem run_builtin_len {w : World} {a : Act} {x : Operand} {t : TypeId} {v : Value} (h : (Builtin.len_ #[t] ty #[a.eval x]).run P w = .ok v w) :
    (execOp a.eval ⟨d, .call { callee := .builtin .len, args := #[x], argTypes := #[t] }, ty, pos, af, g⟩).run P w = .ok (.value v) w := by
  simp [execOp, resolve, invoke, builtin, h]
theorem Pev.len_str {t : TypeId} {x : Operand} {cx : Bool} {s : ByteArray} (hx : evl l x = some (cx, .string s)) (hc : c = true → cx = true) (hu : strB P t = true) :
    Pev P n l C ⟨d, .call { callee := .builtin .len, args := #[x], argTypes := #[t] }, ty, pos, af, g⟩ c (.int .i64 s.size) :=
  .of_run fun h a w hs hw => run_builtin_len (by rw [hs.eval hx (hc h)]; exact run_len_str hu)
theorem Pev.len_slice {t : TypeId} {x : Operand} {cx : Bool} {q : Option Addr} {m cp : Nat} {e : TypeId × Nat} (hx : evl l x = some (cx, .slice q m cp)) (hc : c = true → cx = true) (hu : slElem P t = some e) :
    Pev P n l C ⟨d, .call { callee := .builtin .len, args := #[x], argTypes := #[t] }, ty, pos, af, g⟩ c (.int .i64 m) :=
  .of_run fun h a w hs hw => run_builtin_len (by rw [hs.eval hx (hc h)]; exact run_len_slice hu)
/-- the byte at a place, as a number -/
def bt (s : ByteArray) (m : Nat) : Int := ((s.data.toList.getD m 0).toNat : Int)
theorem bt_lo (s : ByteArray) (m : Nat) : 0 ≤ bt s m := by unfold bt; omega
theorem bt_hi (s : ByteArray) (m : Nat) : bt s m ≤ 255 := by unfold bt; have := (s.data.toList.getD m 0).toNat_lt; omega
theorem Pev.index_str {t : TypeId} {x y : Operand} {cx cy : Bool} {s : ByteArray} {ki : IntKind} {i : Int} {m : Nat} (hx : evl l x = some (cx, .string s)) (hcx : c = true → cx = true) (hy : evl l y = some (cy, .int ki i)) (hcy : c = true → cy = true)
    (hu : strB P t = true) (hm : c = true → i = (m : Int) ∧ m < s.size) : Pev P n l C ⟨d, .index t x y, ty, pos, af, g⟩ c (.int .u8 (bt s m)) :=
  .of_run fun h a w hs hw => by
    obtain ⟨rfl, hlt⟩ := hm h
    unfold strB at hu
    cases h1 : P.underlying t with
    | none => simp [h1] at hu
    | some dd =>
      rw [h1] at hu
      cases dd <;> simp at hu
      have hb : bt s m = (s[m].toNat : Int) := by
        unfold bt
        have : m < s.data.toList.length := by simpa using hlt
        rw [List.getD_eq_getElem?_getD, List.getElem?_eq_getElem this]
        rfl
      simp [execOp, hs.eval hx (hcx h), hs.eval hy (hcy h), Instr.index, asIntOf, run_underlying h1, hlt, hb]
end
end Go.Eng

/- The rules for memory: addresses, loads, calls, new blocks, stores. General: any program P. No condition. -/
namespace Go.Eng
open Go.RowKit
/-- of the items none owns block k -/
inductive NotOwned : List Item → Nat → Prop where
  | nil {k : Nat} : NotOwned [] k
  | blk {b : Nat} {t : TypeId} {c : List Value} {H : List Item} {k : Nat} (h : k ≠ b) (r : NotOwned H k) : NotOwned (blk b t c :: H) k
  | any {i : Item} {H : List Item} {k : Nat} (h : ¬ i.own k) (r : NotOwned H k) : NotOwned (i :: H) k
theorem NotOwned.not {H : List Item} {k : Nat} (h : NotOwned H k) : ¬ owned H k := by
  induction h with
  | nil => rintro ⟨i, hi, _⟩; cases hi
  | @blk b t c H k h r ih =>
    rintro ⟨i, hi, hk⟩
    cases hi with
    | head => exact h hk
    | tail _ hi => exact ih ⟨i, hi, hk⟩
  | @any i H k h r ih =>
    rintro ⟨j, hj, hk⟩
    cases hj with
    | head => exact h hk
    | tail _ hj => exact ih ⟨j, hj, hk⟩
/-- a list taken to pieces: what the first k are -/
inductive Take : Nat → List Value → List Value → Prop where
  | zero {l : List Value} : Take 0 l []
  | succ {k : Nat} {v : Value} {l r : List Value} (h : Take k l r) : Take (k + 1) (v :: l) (v :: r)
theorem Take.get {k : Nat} {l r : List Value} (h : Take k l r) : r.length = k ∧ ∀ (j : Nat) (v : Value), r[j]? = some v → l[j]? = some v := by
  induction h with
  | zero => exact ⟨rfl, fun j v hv => by simp at hv⟩
  | @succ k v l r _ ih =>
    refine ⟨by simp [ih.1], fun j u hu => ?_⟩
    cases j with
    | zero => simpa using hu
    | succ j => exact ih.2 j u (by simpa using hu)
/-- the cells that a value takes -/
inductive CellsL : Value → List Value → Prop where
  | one {v : Value} (h : v.cells = #[v]) : CellsL v [v]
  | agg {c : List Value} : CellsL (.agg c.toArray) c
theorem CellsL.eq {v : Value} {cs : List Value} (h : CellsL v cs) : v.cells = cs.toArray := by
  cases h with
  | one h => exact h
  | agg => rfl
/-- vs laid over the head of l -/
inductive Over : List Value → List Value → List Value → Prop where
  | nil {l : List Value} : Over l [] l
  | cons {x v : Value} {l vs r : List Value} (h : Over l vs r) : Over (x :: l) (v :: vs) (v :: r)
/-- vs laid over l from place o on -/
inductive Put : List Value → Nat → List Value → List Value → Prop where
  | here {l vs r : List Value} (h : Over l vs r) : Put l 0 vs r
  | skip {x : Value} {l vs r : List Value} {o : Nat} (h : Put l o vs r) : Put (x :: l) (o + 1) vs (x :: r)
def putL : List Value → Nat → List Value → List Value
  | l, _, [] => l
  | l, o, v :: r => putL (l.set o v) (o + 1) r
theorem putL_cons : ∀ (vs : List Value) (x : Value) (l : List Value) (o : Nat), putL (x :: l) (o + 1) vs = x :: putL l o vs
  | [], _, _, _ => rfl
  | v :: vs, x, l, o => by rw [putL, List.set_cons_succ, putL_cons, putL]
theorem Over.eq {l vs r : List Value} (h : Over l vs r) : vs.length ≤ l.length ∧ putL l 0 vs = r := by
  induction h with
  | nil => exact ⟨by simp, rfl⟩
  | @cons x v l vs r h ih => exact ⟨by simp [ih.1], by rw [putL, List.set_cons_zero, putL_cons, ih.2]⟩
theorem Put.eq {l vs r : List Value} {o : Nat} (h : Put l o vs r) : o + vs.length ≤ l.length ∧ putL l o vs = r := by
  induction h with
  | here h => exact ⟨by have := h.eq.1; omega, h.eq.2⟩
  | @skip x l vs r o h ih => exact ⟨by have := ih.1; simp; omega, by rw [putL_cons, ih.2]⟩
/-- item i at its place is j now -/
inductive Swap : Nat → List Item → Item → Item → List Item → Prop where
  | z {i j : Item} {H : List Item} : Swap 0 (i :: H) i j (j :: H)
  | s {p : Nat} {k i j : Item} {H H' : List Item} (h : Swap p H i j H') : Swap (p + 1) (k :: H) i j (k :: H')
theorem Swap.eq {p : Nat} {H H' : List Item} {i j : Item} (h : Swap p H i j H') : H[p]? = some i ∧ H' = H.set p j := by
  induction h with
  | z => exact ⟨rfl, rfl⟩
  | @s p k i j H H' h ih => exact ⟨by simpa using ih.1, by rw [List.set_cons_succ, ← ih.2]⟩
def AllLe : List World → Nat → Prop
  | [], _ => True
  | s :: r, b => s.heap.size ≤ b ∧ AllLe r b
theorem AllLe.mk {H : List Item} {S : List World} {w : World} (h : Cls H S w) : AllLe S w.heap.size := by
  have := h.kp
  clear h
  induction S with
  | nil => trivial
  | cons s S ih => exact ⟨(this s (.head _)).size, ih fun x hx => this x (.tail _ hx)⟩
/-! what a tactic finds by itself, as an argument that is filled in -/
theorem NotOwned.au {H : List Item} {k : Nat} (h : NotOwned H k := by (focus ((try simp only [add_block]); (repeat (first | exact NotOwned.nil | exact hno _ (by omega) | refine NotOwned.nothing ?_ | refine NotOwned.nds (hlow _ (by omega)) ?_ | refine NotOwned.mapS (by omega) ?_ | apply NotOwned.bif | refine NotOwned.blk (by omega) ?_ | refine NotOwned.row (by omega) ?_ | refine NotOwned.grid (by assumption) (by omega) ?_ | refine NotOwned.pile (by omega) ?_ | refine NotOwned.pool (by omega) ?_ | refine NotOwned.mapI (by omega) ?_ | refine NotOwned.mapX (by omega) ?_ | refine NotOwned.itI (by omega) ?_)); first | done | fail))) : NotOwned H k := h
theorem mau {α : Type} {x : α} {l : List α} (h : x ∈ l := by (repeat (first | exact List.Mem.head _ | apply List.Mem.tail)); first | done | fail) : x ∈ l := h
theorem Take.au {k : Nat} {l r : List Value} (h : Take k l r := by (repeat (first | apply Take.zero | apply Take.succ)); first | done | fail) : Take k l r := h
theorem Put.au {l vs r : List Value} {o : Nat} (h : Put l o vs r := by (repeat (first | apply Over.nil | apply Over.cons | apply Put.here | apply Put.skip)); first | done | fail) : Put l o vs r := h
theorem Swap.au {p : Nat} {H H' : List Item} {i j : Item} (h : Swap p H i j H' := by (repeat (first | apply Swap.z | apply Swap.s)); first | done | fail) : Swap p H i j H' := h
section
variable {P : Program} {n : Nm} {l : Env} {H : List Item} {S : List World} {C : World → Prop} {c : Bool} {d : Option Nat} {ty : TypeId} {pos : String} {af : Array Edge} {g : Option (Nat × Bool)}
variable {t : TypeId} {x y : Operand} {cx cy : Bool}
/-! addresses -/
theorem run_fieldAt {i off : Nat} {a : Addr} {w : World} (hf : fldAt P t i = some off) : (Instr.fieldAt t (.pointer (some a)) i).run P w = .ok (.pointer (some (a.add off))) w := by
  unfold fldAt at hf
  cases hu : P.underlying t with
  | none => simp [hu] at hf
  | some dd =>
    rw [hu] at hf
    cases dd <;> simp only [reduceCtorEq] at hf
    rename_i fs
    cases hq : fs[i]? with
    | none => simp [hq] at hf
    | some f =>
      rw [hq] at hf
      simp only at hf
      cases hz : sizeN P f.type with
      | none => simp [hz] at hf
      | some k =>
        rw [hz] at hf
        cases k with
        | zero => simp at hf
        | succ k =>
          have hf := lit_eq hf
          subst hf
          simp [Instr.fieldAt, run_underlying hu, hq, Instr.sureAddr, fieldPlace, run_sizeN hz]
theorem Pev.fld {i off b o : Nat} (hx : evl l x = some (cx, .pointer (some ⟨b, o, none⟩))) (hc : c = true → cx = true) (hf : fldAt P t i = some off) : Pev P n l C ⟨d, .fieldAddr t x i, ty, pos, af, g⟩ c (.pointer (some ⟨b, o + off, none⟩)) :=
  .of_run fun h a w hs hw => by simp only [execOp, hs.eval hx (hc h), Sem.run_bind, run_fieldAt hf, Result.andThen_ok, add_mid]; rfl
theorem Pev.fldA {i off : Nat} {q : Addr} (hx : evl l x = some (cx, .pointer (some q))) (hc : c = true → cx = true) (hf : fldAt P t i = some off) : Pev P n l C ⟨d, .fieldAddr t x i, ty, pos, af, g⟩ c (.pointer (some (q.add off))) :=
  .of_run fun h a w hs hw => by simp only [execOp, hs.eval hx (hc h), Sem.run_bind, run_fieldAt hf, Result.andThen_ok]; rfl
theorem run_indexAt_slice {e : TypeId} {sz m len cp : Nat} {ki : IntKind} {a : Addr} {w : World} (hu : slElem P t = some (e, sz)) (hm : m < len) : (Instr.indexAt t (.slice (some a) len cp) (.int ki (m : Int))).run P w = .ok (.pointer (some (a.add (m * sz)))) w := by
  unfold slElem at hu
  cases h1 : P.underlying t with
  | none => simp [h1] at hu
  | some dd =>
    rw [h1] at hu
    cases dd <;> simp only [reduceCtorEq] at hu
    rename_i e'
    cases h2 : sizeN P e' with
    | none => simp [h2] at hu
    | some k =>
      rw [h2] at hu
      simp only [Option.some.injEq, Prod.mk.injEq] at hu
      obtain ⟨rfl, rfl⟩ := hu
      simp [Instr.indexAt, asIntOf, run_underlying h1, run_sizeN h2, hm]
theorem Pev.idx {e : TypeId} {sz m len cp : Nat} {ki : IntKind} {i : Int} {q : Addr} (hx : evl l x = some (cx, .slice (some q) len cp)) (hcx : c = true → cx = true) (hy : evl l y = some (cy, .int ki i)) (hcy : c = true → cy = true)
    (hu : slElem P t = some (e, sz)) (hi : i = (m : Int)) (hm : c = true → m < len) : Pev P n l C ⟨d, .indexAddr t x y, ty, pos, af, g⟩ c (.pointer (some (q.add (m * sz)))) :=
  .of_run fun h a w hs hw => by
    subst hi
    simp only [execOp, hs.eval hx (hcx h), hs.eval hy (hcy h), Sem.run_bind, run_indexAt_slice hu (hm h), Result.andThen_ok]; rfl
/-- at a row of the call's own: the place is told by numbers -/
theorem Pev.idxB {e : TypeId} {sz m len cp b o : Nat} {ki : IntKind} {i : Int} (hx : evl l x = some (cx, .slice (some ⟨b, o, none⟩) len cp)) (hcx : c = true → cx = true) (hy : evl l y = some (cy, .int ki i)) (hcy : c = true → cy = true)
    (hu : slElem P t = some (e, sz)) (hi : c = true → 0 ≤ i ∧ i < len) (hm : i.toNat = m) : Pev P n l C ⟨d, .indexAddr t x y, ty, pos, af, g⟩ c (.pointer (some ⟨b, o + m * sz, none⟩)) :=
  .of_run fun h a w hs hw => by
    obtain ⟨h1, h2⟩ := hi h
    have e : i = (m : Int) := by omega
    subst e
    simp only [execOp, hs.eval hx (hcx h), hs.eval hy (hcy h), Sem.run_bind, run_indexAt_slice hu (show m < len by omega), Result.andThen_ok, add_mid]; rfl
/-! loads -/
theorem run_loadAt {w : World} {a : Addr} {v : Value} (h : (loadVar t a).run P w = .ok v w) : (Instr.loadAt t (.pointer (some a))).run P w = .ok v w := by simp [Instr.loadAt, Instr.sureAddr, h]
theorem Pev.load_of {q : Addr} {v : Value} (hx : evl l x = some (cx, .pointer (some q))) (hcx : c = true → cx = true) (h : c = true → ∀ w, C w → (loadVar t q).run P w = .ok v w) : Pev P n l C ⟨d, .load t x, ty, pos, af, g⟩ c v :=
  .of_run fun hc a w hs hw => by simp only [execOp, hs.eval hx (hcx hc), Sem.run_bind, run_loadAt (h hc w hw), Result.andThen_ok]; rfl
theorem Cls.item {w : World} (h : Cls H S w) {i : Item} (hp : i ∈ H) : i.holds w := h.holds i hp
/-- one cell of a block that is known whole -/
theorem Pev.load_blk {b o : Nat} {t' : TypeId} {cs : List Value} {v : Value} (hx : evl l x = some (cx, .pointer (some ⟨b, o, none⟩))) (hcx : c = true → cx = true)
    (hp : blk b t' cs ∈ H) (hs : scalB P t = true) (hv : cs[o]? = some v) : Pev P n l (Cls H S) ⟨d, .load t x, ty, pos, af, g⟩ c v :=
  .load_of hx hcx fun _ w hw => run_loadVar_scal hs (by rw [blk_cell (hw.item hp)]; exact hv)
/-- several cells of a block that is known whole -/
theorem Pev.load_blkA {b o k : Nat} {t' : TypeId} {cs vs : List Value} (hx : evl l x = some (cx, .pointer (some ⟨b, o, none⟩))) (hcx : c = true → cx = true)
    (hp : blk b t' cs ∈ H) (hs : aggN P t = some k) (hv : Take k (cs.drop o) vs) : Pev P n l (Cls H S) ⟨d, .load t x, ty, pos, af, g⟩ c (.agg vs.toArray) :=
  .load_of hx hcx fun _ w hw => run_loadVar_agg (by rw [hv.get.1]; exact hs) fun j v hj => by
    rw [add_mid, blk_cell (hw.item hp)]
    have := hv.get.2 j v hj
    rwa [List.getElem?_drop] at this
theorem Cls.cell {w s : World} (h : Cls H S w) (hq : s ∈ S) {a : Addr} (hlt : a.block < s.heap.size) (hno : NotOwned H a.block) : w.cell? a = s.cell? a :=
  World.cell?_of_block ((h.kp s hq).block a.block hlt hno.not)
/-- one cell of a kept world -/
theorem Pev.load_kept {s : World} {a : Addr} {v : Value} (hx : evl l x = some (cx, .pointer (some a))) (hcx : c = true → cx = true) (hq : s ∈ S) (hs : scalB P t = true)
    (hv : c = true → s.cell? a = some v) (hlt : c = true → a.block < s.heap.size) (hno : c = true → NotOwned H a.block) : Pev P n l (Cls H S) ⟨d, .load t x, ty, pos, af, g⟩ c v :=
  .load_of hx hcx fun h w hw => run_loadVar_scal hs (by rw [hw.cell hq (hlt h) (hno h)]; exact hv h)
theorem Pev.load_keptA {s : World} {a : Addr} {vs : List Value} {k : Nat} (hx : evl l x = some (cx, .pointer (some a))) (hcx : c = true → cx = true) (hq : s ∈ S) (hs : aggN P t = some k)
    (hv : c = true → CellsAt s a vs) (hk : vs.length = k) (hlt : c = true → a.block < s.heap.size) (hno : c = true → NotOwned H a.block) : Pev P n l (Cls H S) ⟨d, .load t x, ty, pos, af, g⟩ c (.agg vs.toArray) :=
  .load_of hx hcx fun h w hw => run_loadVar_agg (by rw [hk]; exact hs) fun j v hj => by
    rw [hw.cell hq (by rw [add_block]; exact hlt h) (by rw [add_block]; exact hno h)]; exact hv h j v hj
/-- one cell out of a run of cells of a kept world -/
theorem CellsAt.at_ {s : World} {a : Addr} {vs : List Value} (h : CellsAt s a vs) {j : Nat} {v : Value} (hj : vs[j]? = some v) : s.cell? (a.add j) = some v := h j v hj
/-! calls -/
inductive Args (l : Env) (c : Bool) : List Operand → List Value → Prop where
  | nil : Args l c [] []
  | cons {x : Operand} {cx : Bool} {v : Value} {xs : List Operand} {vs : List Value} (hx : evl l x = some (cx, v)) (hc : c = true → cx = true) (r : Args l c xs vs) : Args l c (x :: xs) (v :: vs)
theorem Args.au {l : Env} {c : Bool} {xs : List Operand} {vs : List Value} (h : Args l c xs vs := by (repeat (first | exact Args.nil | (apply Args.cons rfl; (first | exact fun _ => rfl | exact fun h => h | (intro h; simp_all; done))))); first | done | fail) : Args l c xs vs := h
theorem Args.map {a : Act} (hs : Sees n l a) (hc : c = true) {xs : List Operand} {vs : List Value} (h : Args l c xs vs) : xs.map a.eval = vs := by
  induction h with
  | nil => rfl
  | cons hx hcx r ih => rw [List.map_cons, hs.eval hx (hcx hc), ih]
theorem run_callFunc_body {f : FuncId} (h : callable P f = true) (args : Array Value) (w : World) : (callFunc f args).run P w = .ok (.enter f args) w := by
  unfold callable at h
  cases hf : P.funcs[f]? with
  | none => simp [hf] at h
  | some fn =>
    rw [hf] at h
    simp only [Bool.and_eq_true, Bool.not_eq_true', Option.isSome_iff_ne_none] at h
    have hb : fn.body ≠ none := h.2
    have hnm : ¬ fn.name = "runtime.NumGoroutine" := by simpa using h.1
    simp [callFunc, hf, hnm, hb]
theorem run_call {f : FuncId} {args : Array Operand} {ats : Array TypeId} {a : Act} {w : World} (h : callable P f = true) :
    (execOp a.eval ⟨d, .call { callee := .value (.func f), args := args, argTypes := ats }, ty, pos, af, g⟩).run P w = .ok (.enter f (args.map a.eval)) w := by
  simp only [execOp, resolve, Act.eval, Deferred.ofValue, invoke, Sem.run_bind, Sem.run_pure, Result.andThen_ok]
  simpa using run_callFunc_body h (args.map a.eval) w
theorem run_callv {f : FuncId} {first cap : Array Value} {args : Array Operand} {ats : Array TypeId} {a : Act} {w : World} (h : callable P f = true) (hx : a.eval x = .func (.func f) first cap) :
    (execOp a.eval ⟨d, .call { callee := .value x, args := args, argTypes := ats }, ty, pos, af, g⟩).run P w = .ok (.enter f (first ++ args.map a.eval ++ cap)) w := by
  simp only [execOp, resolve, hx, Deferred.ofValue, invoke, Sem.run_bind, Sem.run_pure, Result.andThen_ok]
  exact run_callFunc_body h _ w
/-- a call whose result does not hang on the world, and that leaves the world in its class -/
theorem Pev.call {f : FuncId} {args : List Operand} {vs : List Value} {ats : Array TypeId} {v : Value} (hf : callable P f = true) (ha : Args l c args vs)
    (h : c = true → ∀ w, C w → Calls P f vs.toArray w fun e w' => e = .returned v ∧ C w') :
    Pev P n l C ⟨d, .call { callee := .value (.func f), args := args.toArray, argTypes := ats }, ty, pos, af, g⟩ c v :=
  ⟨fun hc a w hs hw => by
    rw [run_call hf]
    refine ⟨rfl, ?_⟩
    rw [List.map_toArray, ha.map hs hc]
    exact h hc w hw⟩
theorem Pev.callv {f : FuncId} {first cap : List Value} {args : List Operand} {vs : List Value} {ats : Array TypeId} {v : Value} (hx : evl l x = some (cx, .func (.func f) first.toArray cap.toArray)) (hcx : c = true → cx = true)
    (hf : callable P f = true) (ha : Args l c args vs)
    (h : c = true → ∀ w, C w → Calls P f (first ++ vs ++ cap).toArray w fun e w' => e = .returned v ∧ C w') :
    Pev P n l C ⟨d, .call { callee := .value x, args := args.toArray, argTypes := ats }, ty, pos, af, g⟩ c v :=
  ⟨fun hc a w hs hw => by
    rw [run_callv hf (hs.eval hx (hcx hc))]
    refine ⟨rfl, ?_⟩
    rw [List.map_toArray, ha.map hs hc]
    simpa using h hc w hw⟩
variable {ops : Array Oper} {rest : List Oper} {Q : Exit → Act → World → Prop}
/-- a call in general: of what it leaves behind, 'k' is asked for every result -/
theorem OL.call {f : FuncId} {args : List Operand} {vs : List Value} {ats : Array TypeId} {dd : Nat} (hn : Nat.ble (dd + 1) n.n = true) (hf : callable P f = true) (ha : Args l true args vs)
    (R : Value → World → Prop) (h : ∀ w, C w → Calls P f vs.toArray w fun e w' => ∃ v, e = .returned v ∧ R v w')
    (k : ∀ v, OL P n ops Q rest ((dd, true, v) :: l) (R v)) : OL P n ops Q (⟨some dd, .call { callee := .value (.func f), args := args.toArray, argTypes := ats }, ty, pos, af, none⟩ :: rest) l C := by
  have hn' := Nat.le_of_ble_eq_true hn
  refine ⟨fun a w hs hc => ?_⟩
  refine wpList_plain rfl fun K hK => ?_
  show Oper.upon P _ a K Q ((execOp a.eval _).run P w)
  rw [run_call hf]
  show Calls P f _ w _
  rw [List.map_toArray, ha.map hs rfl]
  refine (h w hc).mono fun e w' ⟨v, he, hr⟩ => ?_
  subst he
  exact hK _ _ ((k v).run _ w' (hs.put hn' true v) hr)
theorem OL.call0 {f : FuncId} {args : List Operand} {vs : List Value} {ats : Array TypeId} (hf : callable P f = true) (ha : Args l true args vs)
    (R : World → Prop) (h : ∀ w, C w → Calls P f vs.toArray w fun e w' => (∃ v, e = .returned v) ∧ R w')
    (k : OL P n ops Q rest l R) : OL P n ops Q (⟨none, .call { callee := .value (.func f), args := args.toArray, argTypes := ats }, ty, pos, af, none⟩ :: rest) l C := by
  refine ⟨fun a w hs hc => ?_⟩
  refine wpList_plain rfl fun K hK => ?_
  show Oper.upon P _ a K Q ((execOp a.eval _).run P w)
  rw [run_call hf]
  show Calls P f _ w _
  rw [List.map_toArray, ha.map hs rfl]
  refine (h w hc).mono fun e w' ⟨⟨v, he⟩, hr⟩ => ?_
  subst he
  exact hK _ _ (k.run _ w' hs hr)
/-- a call whose result is known, and that turns the class -/
theorem OL.callF {C' : World → Prop} {f : FuncId} {args : List Operand} {vs : List Value} {ats : Array TypeId} {dd : Nat} {v : Value} (hn : Nat.ble (dd + 1) n.n = true) (hf : callable P f = true) (ha : Args l true args vs)
    (h : ∀ w, C w → Calls P f vs.toArray w fun e w' => e = .returned v ∧ C' w')
    (k : OL P n ops Q rest ((dd, true, v) :: l) C') : OL P n ops Q (⟨some dd, .call { callee := .value (.func f), args := args.toArray, argTypes := ats }, ty, pos, af, none⟩ :: rest) l C :=
  OL.call hn hf ha (fun u w => u = v ∧ C' w) (fun w hw => (h w hw).mono fun e w' he => ⟨v, he.1, rfl, he.2⟩) (fun u => ⟨fun a w hs hc => by obtain ⟨rfl, hc⟩ := hc; exact k.run a w hs hc⟩)
/-- a call whose result is one of several: told by x -/
theorem OL.callE {α : Type} (V : α → Value) (Φ : α → Prop) (C' : α → World → Prop) {f : FuncId} {args : List Operand} {vs : List Value} {ats : Array TypeId} {dd : Nat} (hn : Nat.ble (dd + 1) n.n = true) (hf : callable P f = true) (ha : Args l true args vs)
    (h : ∀ w, C w → Calls P f vs.toArray w fun e w' => ∃ x, e = .returned (V x) ∧ Φ x ∧ C' x w')
    (k : ∀ x, Φ x → OL P n ops Q rest ((dd, true, V x) :: l) (C' x)) : OL P n ops Q (⟨some dd, .call { callee := .value (.func f), args := args.toArray, argTypes := ats }, ty, pos, af, none⟩ :: rest) l C :=
  OL.call hn hf ha (fun u w => ∃ x, u = V x ∧ Φ x ∧ C' x w) (fun w hw => (h w hw).mono fun e w' ⟨x, he, hx, hc⟩ => ⟨V x, he, x, rfl, hx, hc⟩)
    (fun u => ⟨fun a w hs hc => by obtain ⟨x, rfl, hx, hc⟩ := hc; exact (k x hx).run a w hs hc⟩)
/-! new blocks -/
theorem OL.new {o : Oper} {dd : Nat} {C' : Nat → World → Prop} (hg : o.guard = none) (hd : o.dst = some dd) (hn : Nat.ble (dd + 1) n.n = true) (V : Nat → Value)
    (hv : ∀ a w, Sees n l a → C w → ∃ b w', (execOp a.eval o).run P w = .ok (.value (V b)) w' ∧ C' b w')
    (k : ∀ b, OL P n ops Q rest ((dd, true, V b) :: l) (C' b)) : OL P n ops Q (o :: rest) l C := by
  have hn' := Nat.le_of_ble_eq_true hn
  refine ⟨fun a w hs hc => ?_⟩
  refine wpList_plain hg fun K hK => ?_
  obtain ⟨b, w', hr, hc'⟩ := hv a w hs hc
  show Oper.upon P o a K Q ((execOp a.eval o).run P w)
  rw [hr]
  show K (a.put o.dst (V b)) w'
  rw [hd]
  exact hK _ _ ((k b).run _ w' (hs.put hn' true _) hc')
/-- a variable that begins with a value -/
theorem OL.box {e : TypeId} {dd : Nat} {v : Value} {cs : List Value} (hn : Nat.ble (dd + 1) n.n = true) (hx : evl l x = some (true, v)) (hv : CellsL v cs)
    (k : ∀ b, AllLe S b → OL P n ops Q rest ((dd, true, .pointer (some ⟨b, 0, none⟩)) :: l) (Cls (blk b e cs :: H) S)) :
    OL P n ops Q (⟨some dd, .box e x, ty, pos, af, none⟩ :: rest) l (Cls H S) :=
  OL.new (C' := fun b w => AllLe S b ∧ Cls (blk b e cs :: H) S w) rfl rfl hn (fun b => .pointer (some ⟨b, 0, none⟩))
    (fun a w hs hc => ⟨w.heap.size, w.alloc (.cells v.cells e), by simp only [execOp, hs.eval hx rfl]; rfl, AllLe.mk hc, by rw [hv.eq]; exact hc.alloc e cs⟩)
    (fun b => ⟨fun a w hs hc => (k b hc.1).run a w hs hc.2⟩)
def zeroV (P : Program) (t : TypeId) : Option Value := match P.info? t with | some i => i.zero | none => none
theorem run_zeroV {v : Value} {w : World} (h : zeroV P t = some v) : (zeroValue t).run P w = .ok v w := by
  unfold zeroV at h
  cases hi : P.info? t with
  | none => simp [hi] at h
  | some i =>
    rw [hi] at h
    simp only at h
    simp [zeroValue, typeInfo, hi, h]
theorem OL.alloc {e : TypeId} {dd : Nat} {v : Value} {cs : List Value} (hn : Nat.ble (dd + 1) n.n = true) (hz : zeroV P e = some v) (hv : CellsL v cs)
    (k : ∀ b, AllLe S b → OL P n ops Q rest ((dd, true, .pointer (some ⟨b, 0, none⟩)) :: l) (Cls (blk b e cs :: H) S)) :
    OL P n ops Q (⟨some dd, .alloc e, ty, pos, af, none⟩ :: rest) l (Cls H S) :=
  OL.new (C' := fun b w => AllLe S b ∧ Cls (blk b e cs :: H) S w) rfl rfl hn (fun b => .pointer (some ⟨b, 0, none⟩))
    (fun a w hs hc => ⟨w.heap.size, w.alloc (.cells v.cells e), by
      simp only [execOp, Instr.alloc, Sem.run_bind, run_zeroV hz, Result.andThen_ok]; rfl, AllLe.mk hc, by rw [hv.eq]; exact hc.alloc e cs⟩)
    (fun b => ⟨fun a w hs hc => (k b hc.1).run a w hs hc.2⟩)
theorem Cls.start_blk {w : World} {b : Nat} {t : TypeId} {cs : List Value} (h : (blk b t cs).holds w) : Cls [blk b t cs] [w] w where
  holds := fun i hi => by simp only [List.mem_singleton] at hi; subst hi; exact h
  lt := fun i hi k hk => by
    simp only [List.mem_singleton] at hi; subst hi
    have hk' : k = b := hk
    subst hk'
    have h' : w.heap[k]? = some (.cells cs.toArray t (0, 0)) := h
    rcases Nat.lt_or_ge k w.heap.size with hl | hl
    · exact hl
    · rw [Array.getElem?_eq_none hl] at h'; cases h'
  dj := List.pairwise_singleton _ _
  kp := fun s hs => by simp only [List.mem_singleton] at hs; subst hs; exact .refl _ _
/-- behind a call that turned block b alone -/
theorem Cls.turn_blk {w w' : World} (h : Cls H S w) {p b : Nat} {t : TypeId} {cs cs' : List Value} {H' : List Item} (hs : Swap p H (blk b t cs) (blk b t cs') H') (hk : Keep (fun k => k = b) w w') (hh : (blk b t cs').holds w') : Cls H' S w' := by
  obtain ⟨hp, rfl⟩ := hs.eq
  refine h.turn p hp hk hh (fun q hq => ?_) (fun q hq => hq)
  have hq' : q = b := hq
  subst hq'
  exact ⟨.inl rfl, Nat.lt_of_lt_of_le (h.lt _ (List.mem_of_getElem? hp) q rfl) hk.size⟩
/-- an array behind a pointer -/
theorem Pev.idxArr {m len sz b o : Nat} {ki : IntKind} {i : Int} (hx : evl l x = some (cx, .pointer (some ⟨b, o, none⟩))) (hcx : c = true → cx = true) (hy : evl l y = some (cy, .int ki i)) (hcy : c = true → cy = true)
    (hu : arrElem P t = some (len, sz)) (hi : c = true → 0 ≤ i ∧ i < len) (hm : i.toNat = m) : Pev P n l C ⟨d, .indexAddr t x y, ty, pos, af, g⟩ c (.pointer (some ⟨b, o + m * sz, none⟩)) :=
  .of_run fun h a w hs hw => by
    obtain ⟨h1, h2⟩ := hi h
    unfold arrElem at hu
    cases hq : P.underlying t with
    | none => simp [hq] at hu
    | some d1 =>
      rw [hq] at hu
      cases d1 <;> simp only [reduceCtorEq] at hu
      rename_i len' e'
      cases h3 : sizeN P e' with
      | none => simp [h3] at hu
      | some k' =>
        rw [h3] at hu
        simp only [Option.some.injEq, Prod.mk.injEq] at hu
        obtain ⟨rfl, rfl⟩ := hu
        subst hm
        simp only [execOp, hs.eval hx (hcx h), hs.eval hy (hcy h), Instr.indexAt, asIntOf, Instr.sureAddr, Sem.run_bind, Sem.run_pure, Result.andThen_ok, run_underlying hq, run_sizeN h3]
        rw [if_pos ⟨h1, h2⟩]
        simp only [Sem.run_bind, run_sizeN h3, Result.andThen_ok, Sem.run_pure, add_mid]
/-! stores into a block that is known whole -/
def oneL : List Value → Bool
  | [] => true
  | v :: r => v.oneCell' && oneL r
theorem putL_length' : ∀ (vs l : List Value) (o : Nat), (putL l o vs).length = l.length
  | [], l, o => rfl
  | v :: r, l, o => by rw [putL, putL_length']; simp
theorem run_storeCells_blk {b o : Nat} {t : TypeId} : ∀ (vs : List Value) (i : Nat) (cs : List Value) (w : World), w.heap[b]? = some (.cells cs.toArray t (0, 0)) → o + i + vs.length ≤ cs.length → oneL vs = true →
    ∃ w', (storeCells ⟨b, o, none⟩ vs i).run P w = .ok () w' ∧ w'.heap[b]? = some (.cells (putL cs (o + i) vs).toArray t (0, 0)) ∧ Keep (fun k => k = b) w w'
  | [], i, cs, w, hg, _, _ => ⟨w, rfl, hg, .refl _ _⟩
  | v :: r, i, cs, w, hg, hl, h1 => by
    simp only [oneL, Bool.and_eq_true] at h1
    simp only [List.length_cons] at hl
    have hcell : w.cell? ⟨b, o + i, none⟩ = some (cs[o + i]'(by omega)) := by simp [World.cell?, hg]
    have hfro : w.frozen? ⟨b, o + i, none⟩ = false := by simp [World.frozen?, hg]
    have hst : (store ((⟨b, o, none⟩ : Addr).add i) v).run P w = .ok () (w.setCell ⟨b, o + i, none⟩ v) := by
      rw [add_mid, run_store P w _ v _ h1.1, hcell]
      simp [hfro]
    have hg' : (w.setCell ⟨b, o + i, none⟩ v).heap[b]? = some (.cells (cs.set (o + i) v).toArray t (0, 0)) := by
      simp [World.setCell, Array.getElem?_modify, hg]
    obtain ⟨w', hr, hh, hk⟩ := run_storeCells_blk (o := o) r (i + 1) (cs.set (o + i) v) (w.setCell ⟨b, o + i, none⟩ v) hg' (by simp; omega) h1.2
    refine ⟨w', ?_, hh, ?_⟩
    · simp only [storeCells, Sem.run_bind, hst, Result.andThen_ok, hr]
    · exact Keep.trans (b := w.setCell ⟨b, o + i, none⟩ v) ⟨rfl, rfl, rfl, by simp [World.setCell], fun k _ hne => Below.heap_setCell _ _ _ _ (fun e => hne e)⟩ hk
theorem run_storeAt_blk {b o : Nat} {t' : TypeId} {v : Value} {k : Nat} {cs vs : List Value} {w : World} (hw : w.heap[b]? = some (.cells cs.toArray t' (0, 0))) (hs : sizeN P t = some k) (hv : v.cells = vs.toArray) (hk : vs.length = k)
    (hl : o + vs.length ≤ cs.length) (h1 : oneL vs = true) :
    ∃ w', (Instr.storeAt t (.pointer (some ⟨b, o, none⟩)) v).run P w = .ok () w' ∧ w'.heap[b]? = some (.cells (putL cs o vs).toArray t' (0, 0)) ∧ Keep (fun k => k = b) w w' := by
  obtain ⟨w', hr, hh, hkp⟩ := run_storeCells_blk (P := P) (o := o) vs 0 cs w hw (by omega) h1
  refine ⟨w', ?_, hh, hkp⟩
  have hsz : v.cells.size = k := by rw [hv]; simpa using hk
  simp only [Instr.storeAt, Instr.sureAddr, storeVar, Sem.run_bind, Sem.run_pure, Result.andThen_ok, run_sizeN hs, hsz, ne_eq, not_true, if_false]
  rw [hv]
  exact hr
theorem OL.storeL {p : Nat} {b o k : Nat} {t' : TypeId} {cs cs' vs : List Value} {v : Value} {H' : List Item} (hx : evl l x = some (true, .pointer (some ⟨b, o, none⟩))) (hy : evl l y = some (true, v)) (hv : v.cells = vs.toArray)
    (hs : sizeN P t = some k) (hk : vs.length = k) (h1 : oneL vs = true) (hcs : o + vs.length ≤ cs.length ∧ putL cs o vs = cs')
    (hH : Swap p H (blk b t' cs) (blk b t' cs') H') (kk : OL P n ops Q rest l (Cls H' S)) : OL P n ops Q (⟨none, .store t x y, ty, pos, af, none⟩ :: rest) l (Cls H S) := by
  obtain ⟨hl, rfl⟩ := hcs
  obtain ⟨hp, rfl⟩ := hH.eq
  refine OL.store_ (C' := Cls (H.set p (blk b t' (putL cs o vs))) S) rfl rfl (fun a w hs' hc => ?_) kk
  obtain ⟨w', hr, hh, hkp⟩ := run_storeAt_blk (P := P) (hc.item (List.mem_of_getElem? hp)) hs hv hk hl h1
  refine ⟨w', ?_, hc.turn p hp (j := blk b t' (putL cs o vs)) hkp hh (fun q hq => ?_) (fun q hq => hq)⟩
  · simp only [execOp, hs'.eval hx rfl, hs'.eval hy rfl, Sem.run_bind, hr, Result.andThen_ok]; rfl
  · have hq' : q = b := hq
    subst hq'
    exact ⟨.inl rfl, Nat.lt_of_lt_of_le (hc.lt _ (List.mem_of_getElem? hp) q rfl) hkp.size⟩
/-- a store into a block written out cell by cell -/
theorem OL.storeB {p : Nat} {b o k : Nat} {t' : TypeId} {cs cs' vs : List Value} {v : Value} {H' : List Item} (hx : evl l x = some (true, .pointer (some ⟨b, o, none⟩))) (hy : evl l y = some (true, v)) (hv : CellsL v vs)
    (hs : sizeN P t = some k) (hk : vs.length = k) (h1 : oneL vs = true) (hH : Swap p H (blk b t' cs) (blk b t' cs') H') (hcs : Put cs o vs cs')
    (kk : OL P n ops Q rest l (Cls H' S)) : OL P n ops Q (⟨none, .store t x y, ty, pos, af, none⟩ :: rest) l (Cls H S) :=
  OL.storeL hx hy hv.eq hs hk h1 hcs.eq hH kk
/-- a store of one cell at a place that is reckoned -/
theorem OL.storeI {p : Nat} {b o : Nat} {t' : TypeId} {cs : List Value} {v : Value} {H' : List Item} (hx : evl l x = some (true, .pointer (some ⟨b, o, none⟩))) (hy : evl l y = some (true, v)) (hv : v.cells = #[v])
    (hs : sizeN P t = some 1) (h1 : oneL [v] = true) (hH : Swap p H (blk b t' cs) (blk b t' (cs.set o v)) H') (hl : o < cs.length)
    (kk : OL P n ops Q rest l (Cls H' S)) : OL P n ops Q (⟨none, .store t x y, ty, pos, af, none⟩ :: rest) l (Cls H S) :=
  OL.storeL (vs := [v]) hx hy hv hs rfl h1 ⟨by simp; omega, rfl⟩ hH kk
/-! literals -/
theorem fold_put (off : Nat) : ∀ (c : List Value) (j : Nat) (cells : Array Value),
    ((c.zipIdx j).foldl (fun (cs : Array Value) (x : Value × Nat) => cs.setIfInBounds (off + x.2) x.1) cells) = (putL cells.toList (off + j) c).toArray
  | [], _, _ => rfl
  | v :: c, j, cells => by
    rw [List.zipIdx_cons, List.foldl_cons, fold_put off c (j + 1), putL]
    congr 1
    simp [Nat.add_assoc]
theorem fold_put_array (off : Nat) (c : List Value) (cells : Array Value) :
    (c.toArray.zipIdx.foldl (fun (cs : Array Value) (x : Value × Nat) => cs.setIfInBounds (off + x.2) x.1) cells) = (putL cells.toList off c).toArray := by
  rw [← Array.foldl_toList]
  have := fold_put off c 0 cells
  simpa using this
/-- the parts of a literal, laid over its zero -/
inductive Fill (l : Env) (place : Nat → Option (Nat × Nat)) : List Value → List (Nat × Operand) → List Value → Prop where
  | nil {cs : List Value} : Fill l place cs [] cs
  | cons {cs cs' cs'' vs : List Value} {i off sz : Nat} {x : Operand} {v : Value} {ps : List (Nat × Operand)} (hx : evl l x = some (true, v)) (hv : CellsL v vs) (hp : place i = some (off, sz)) (hs : vs.length = sz)
      (hput : Put cs off vs cs') (r : Fill l place cs' ps cs'') : Fill l place cs ((i, x) :: ps) cs''
theorem Fill.au {l : Env} {place : Nat → Option (Nat × Nat)} {cs cs' : List Value} {ps : List (Nat × Operand)} (h : Fill l place cs ps cs' := by (repeat (first | exact Fill.nil | (apply Fill.cons rfl; (first | exact CellsL.one rfl | exact CellsL.agg); rfl; rfl; exact Put.au))); first | done | fail) : Fill l place cs ps cs' := h
theorem Fill.run {a : Act} (hs : Sees n l a) {place : Nat → Option (Nat × Nat)} {cs cs' : List Value} {ps : List (Nat × Operand)} (h : Fill l place cs ps cs') :
    Instr.fill place cs.toArray (ps.map fun p => (p.1, a.eval p.2)) = some cs'.toArray := by
  induction h with
  | nil => rfl
  | @cons cs cs' cs'' vs i off sz x v ps hx hv hp hsz hput r ih =>
    simp only [List.map_cons, Instr.fill, hp, hs.eval hx rfl, hv.eq]
    rw [if_neg (by
      have := hput.eq.1
      simp [hsz]; omega)]
    rw [fold_put_array]
    simp only [hput.eq.2]
    exact ih
def structPlaces (P : Program) (t : TypeId) (i : Nat) : Option (Nat × Nat) := match P.underlying t with
  | some (.struct fs) => match fs[i]? with
    | some f => match sizeN P f.type with
      | some k => match lit f.offset with
        | some o => some (o, k)
        | none => none
      | none => none
    | none => none
  | _ => none
theorem mapM_places {w : World} : ∀ (fs : List Field), (∀ f ∈ fs, (sizeN P f.type).isSome = true) →
    ((fs.mapM fun f => do pure (f.offset, ← sizeOf f.type) : Sem (List (Nat × Nat))).run P w) = .ok (fs.map fun f => (f.offset, (sizeN P f.type).getD 0)) w
  | [], _ => rfl
  | f :: fs, h => by
    have h0 := h f (.head _)
    cases hz : sizeN P f.type with
    | none => simp [hz] at h0
    | some k =>
      have ih := mapM_places (w := w) fs (fun g hg => h g (.tail _ hg))
      simp only [List.mapM_cons, Sem.run_bind, run_sizeN hz, Result.andThen_ok, Sem.run_pure, ih, List.map_cons, hz, Option.getD_some]
def sizedB (P : Program) (t : TypeId) : Bool := match P.underlying t with | some (.struct fs) => fs.toList.all fun f => (sizeN P f.type).isSome && (lit f.offset).isSome | _ => false
/-- a struct's literal -/
theorem Pev.build {parts : List (Nat × Operand)} {z : Value} {cs cs' : List Value} (hz : zeroV P t = some z) (hcs : CellsL z cs) (hb : sizedB P t = true) (hf : Fill l (structPlaces P t) cs parts cs') (hc : c = true) :
    Pev P n l C ⟨d, .build t parts.toArray, ty, pos, af, g⟩ c (.agg cs'.toArray) :=
  .of_run fun h a w hs hw => by
    unfold sizedB at hb
    cases hu : P.underlying t with
    | none => simp [hu] at hb
    | some dd =>
      rw [hu] at hb
      cases dd <;> simp only [Bool.false_eq_true] at hb
      rename_i fs
      have hb2 : ∀ f ∈ fs.toList, (sizeN P f.type).isSome = true ∧ (lit f.offset).isSome = true := fun f hf => by simpa using List.all_eq_true.1 hb f hf
      have hb' : ∀ f ∈ fs.toList, (sizeN P f.type).isSome = true := fun f hf => (hb2 f hf).1
      have hm := mapM_places (P := P) (w := w) fs.toList hb'
      have hrun := hf.run hs
      have hpl : (fun i => (fs.map fun f => (f.offset, (sizeN P f.type).getD 0))[i]?) = structPlaces P t := by
        funext i
        unfold structPlaces
        rw [hu]
        simp only [Array.getElem?_map]
        cases hi : fs[i]? with
        | none => rfl
        | some f =>
          have h1 := hb' f (by simpa using Array.mem_of_getElem? hi)
          have h2 := (hb2 f (by simpa using Array.mem_of_getElem? hi)).2
          cases hz : sizeN P f.type with
          | none => simp [hz] at h1
          | some k =>
            cases ho : lit f.offset with
            | none => simp [ho] at h2
            | some o =>
              simp only [Option.map_some, hz, ho, Option.getD_some]
              rw [lit_eq ho]
      have hm2 : (fs.mapM fun f => do pure (f.offset, ← sizeOf f.type) : Sem (Array (Nat × Nat))).run P w = .ok (fs.map fun f => (f.offset, (sizeN P f.type).getD 0)) w := by
        rw [Array.mapM_eq_mapM_toList, Sem.run_map, hm]
        simp only [Result.andThen_ok]
        congr 1
        rw [← Array.toList_map]
      simp only [execOp, Instr.build, Sem.run_bind, run_zeroV hz, Result.andThen_ok, run_underlying hu, hm2, hcs.eq]
      have hparts : (parts.toArray.map fun p => (p.1, a.eval p.2)).toList = parts.map fun p => (p.1, a.eval p.2) := by simp
      rw [hparts, hpl, hrun]
      rfl
def repL (z : List Value) : Nat → List Value
  | 0 => []
  | k + 1 => z ++ repL z k
/-- one list behind the other -/
inductive App : List Value → List Value → List Value → Prop where
  | nil {l : List Value} : App [] l l
  | cons {x : Value} {c l r : List Value} (h : App c l r) : App (x :: c) l (x :: r)
theorem App.au {c l r : List Value} (h : App c l r := by (repeat (first | apply App.nil | apply App.cons)); first | done | fail) : App c l r := h
theorem App.eq {c l r : List Value} (h : App c l r) : c ++ l = r := by
  induction h with
  | nil => rfl
  | cons _ ih => rw [List.cons_append, ih]
/-- the elements of a slice's literal, each at its place -/
inductive Elems (l : Env) (sz : Nat) : Nat → List (Nat × Operand) → List Value → Prop where
  | nil {i : Nat} : Elems l sz i [] []
  | cons {i : Nat} {x : Operand} {v : Value} {vs cs cs' : List Value} {ps : List (Nat × Operand)} (hx : evl l x = some (true, v)) (hv : CellsL v vs) (hs : vs.length = sz) (r : Elems l sz (i + 1) ps cs) (ha : App vs cs cs') :
      Elems l sz i ((i, x) :: ps) cs'
theorem Elems.au {l : Env} {sz i : Nat} {ps : List (Nat × Operand)} {cs : List Value} (h : Elems l sz i ps cs := by (repeat (first | exact Elems.nil | (apply Elems.cons rfl; (first | exact CellsL.one rfl | exact CellsL.agg); rfl) | exact App.au)); first | done | fail) : Elems l sz i ps cs := h
theorem putL_eq : ∀ (vs l : List Value) (o : Nat), o + vs.length ≤ l.length → putL l o vs = l.take o ++ vs ++ l.drop (o + vs.length)
  | [], l, o, _ => by simp [putL]
  | v :: vs, l, o, h => by
    simp only [List.length_cons] at h
    rw [putL, putL_eq vs _ _ (by simp; omega)]
    have ho : o < l.length := by omega
    rw [List.take_set, List.drop_set]
    simp only [List.length_cons]
    rw [show (if o < o + 1 + vs.length then List.drop (o + 1 + vs.length) l else (List.drop (o + 1 + vs.length) l).set (o - (o + 1 + vs.length)) v) = List.drop (o + (vs.length + 1)) l from by rw [if_pos (by omega)]; congr 1; omega]
    have : (List.take (o + 1) l).set o v = List.take o l ++ [v] := by
      rw [List.take_succ_eq_append_getElem ho, List.set_append_right _ _ (by simp; omega)]
      simp [Nat.min_eq_left (Nat.le_of_lt ho)]
    rw [this]
    simp
theorem Elems.run {a : Act} (hs : Sees n l a) {sz : Nat} {i : Nat} {ps : List (Nat × Operand)} {cs : List Value} (h : Elems l sz i ps cs) :
    ∀ (cells : Array Value), cells.size = (i + ps.length) * sz →
    Instr.fill (fun j => some (j * sz, sz)) cells (ps.map fun p => (p.1, a.eval p.2)) = some (cells.toList.take (i * sz) ++ cs).toArray := by
  induction h with
  | @nil i =>
    intro cells hc
    simp only [List.length_nil, Nat.add_zero] at hc
    rw [← hc, List.take_of_length_le (by simp)]
    simp [Instr.fill]
  | @cons i x v vs cs cs' ps hx hv hsz r ha ih =>
    intro cells hc
    obtain rfl := ha.eq
    simp only [List.length_cons] at hc
    have hle : i * sz + sz ≤ cells.size := by
      rw [hc, ← Nat.succ_mul]
      exact Nat.mul_le_mul_right _ (by omega)
    simp only [List.map_cons, Instr.fill, hs.eval hx rfl, hv.eq]
    rw [if_neg (by simp [hsz]; omega), fold_put_array]
    rw [ih _ (by rw [List.size_toArray, putL_length', Array.length_toList, hc]; congr 1; omega)]
    congr 2
    rw [putL_eq _ _ _ (by simp [hsz]; omega)]
    simp only [hsz]
    have e1 : (cells.toList.take (i * sz)).length = i * sz := by simp; omega
    rw [show (i + 1) * sz = i * sz + sz from by rw [Nat.succ_mul]]
    rw [List.take_append_of_le_length (by simp [hsz]; omega), List.take_append]
    simp [hsz, Nat.min_eq_left (show i * sz ≤ cells.size by omega), List.take_of_length_le]
theorem range_map_size {m : Nat} {f : Nat → Value} : ((Array.range m).map f).size = m := by simp
/-- a slice's literal: a row of the call's own -/
theorem OL.buildSlice {e : TypeId} {sz len dd : Nat} {parts : List (Nat × Operand)} {cs : List Value} (hn : Nat.ble (dd + 1) n.n = true) (hu : slElem P t = some (e, sz)) (hz : (zeroV P e).isSome = true)
    (hp : Elems l sz 0 parts cs) (hlen : parts.length = len) (hl : Nat.ble (len * sz) 16777216 = true)
    (k : ∀ b, AllLe S b → OL P n ops Q rest ((dd, true, .slice (some ⟨b, 0, none⟩) len len) :: l) (Cls (blk b e cs :: H) S)) :
    OL P n ops Q (⟨some dd, .buildSlice t len parts.toArray, ty, pos, af, none⟩ :: rest) l (Cls H S) :=
  OL.new (C' := fun b w => AllLe S b ∧ Cls (blk b e cs :: H) S w) rfl rfl hn (fun b => .slice (some ⟨b, 0, none⟩) len len)
    (fun a w hs hc => ⟨w.heap.size, w.alloc (.cells cs.toArray e), by
      unfold slElem at hu
      cases h1 : P.underlying t with
      | none => simp [h1] at hu
      | some d1 =>
        rw [h1] at hu
        cases d1 <;> simp only [reduceCtorEq] at hu
        rename_i e'
        cases h2 : sizeN P e' with
        | none => simp [h2] at hu
        | some k' =>
          rw [h2] at hu
          simp only [Option.some.injEq, Prod.mk.injEq] at hu
          obtain ⟨rfl, rfl⟩ := hu
          cases hzz : zeroV P e' with
          | none => simp [hzz] at hz
          | some z =>
            have hle := Nat.le_of_ble_eq_true hl
            have hparts : (parts.toArray.map fun p => (p.1, a.eval p.2)).toList = parts.map fun p => (p.1, a.eval p.2) := by simp
            have hfill := fun (cells : Array Value) (hc : cells.size = len * k') => hp.run hs cells (by rw [hlen, Nat.zero_add]; exact hc)
            simp only [execOp, Instr.buildSlice, Sem.run_bind, run_underlying h1, run_sizeN h2, Result.andThen_ok]
            rw [if_neg (by omega)]
            by_cases h0 : len * k' = 0
            · simp only [h0, if_true, Sem.run_pure, Sem.run_bind, Result.andThen_ok, hparts]
              rw [hfill _ (by rw [range_map_size, h0])]
              simp [newRow]
            · simp only [h0, if_false, Sem.run_bind, run_zeroV hzz, Sem.run_pure, Result.andThen_ok, hparts]
              rw [hfill _ range_map_size]
              simp [newRow], AllLe.mk hc, hc.alloc e cs⟩)
    (fun b => ⟨fun a w hs hc => (k b hc.1).run a w hs hc.2⟩)
/-! short forms -/
theorem yes {p : Prop} : p → true = true := fun _ => rfl
section
variable {dd : Nat} {v u r : Value} {K : Act → Prop}
theorem omv (hn : Nat.ble (dd + 1) n.n = true) (hx : evl l x = some (true, v)) (k : OL P n ops Q rest ((dd, true, v) :: l) C) : OL P n ops Q (⟨some dd, .move x, ty, pos, af, none⟩ :: rest) l C := OL.op Guard.none rfl hn (Pev.move hx yes) k
theorem oas (hn : Nat.ble (dd + 1) n.n = true) (hx : evl l x = some (true, v)) (k : OL P n ops Q rest ((dd, true, v) :: l) C) : OL P n ops Q (⟨some dd, .assign x, ty, pos, af, none⟩ :: rest) l C := OL.op Guard.none rfl hn (Pev.assign hx yes) k
theorem obn {op : BinOp} {yt : TypeId} (hn : Nat.ble (dd + 1) n.n = true) (hx : evl l x = some (true, u)) (hy : evl l y = some (true, v)) (hb : Bin P op t u v r) (k : OL P n ops Q rest ((dd, true, r) :: l) C) : OL P n ops Q (⟨some dd, .binOp op t x y yt, ty, pos, af, none⟩ :: rest) l C := OL.op Guard.none rfl hn (Pev.bin hx (fun _ => rfl) hy (fun _ => rfl) (fun _ => hb)) k
theorem ofa {i off b o : Nat} (hn : Nat.ble (dd + 1) n.n = true) (hx : evl l x = some (true, .pointer (some ⟨b, o, none⟩))) (hf : fldAt P t i = some off) (k : OL P n ops Q rest ((dd, true, .pointer (some ⟨b, o + off, none⟩)) :: l) C) : OL P n ops Q (⟨some dd, .fieldAddr t x i, ty, pos, af, none⟩ :: rest) l C := OL.op Guard.none rfl hn (Pev.fld hx (fun _ => rfl) hf) k
theorem old {b o : Nat} {t' : TypeId} {cs : List Value} (hn : Nat.ble (dd + 1) n.n = true) (hx : evl l x = some (true, .pointer (some ⟨b, o, none⟩))) (hp : blk b t' cs ∈ H) (hs : scalB P t = true) (hv : cs[o]? = some v) (k : OL P n ops Q rest ((dd, true, v) :: l) (Cls H S)) : OL P n ops Q (⟨some dd, .load t x, ty, pos, af, none⟩ :: rest) l (Cls H S) := OL.op Guard.none rfl hn (Pev.load_blk hx (fun _ => rfl) hp hs hv) k
theorem oex {vs : List Value} {i : Nat} (hn : Nat.ble (dd + 1) n.n = true) (hx : evl l x = some (true, .tuple vs.toArray)) (hv : vs[i]? = some v) (k : OL P n ops Q rest ((dd, true, v) :: l) C) : OL P n ops Q (⟨some dd, .extract x i, ty, pos, af, none⟩ :: rest) l C := OL.op Guard.none rfl hn (Pev.extract hx (fun _ => rfl) hv) k
theorem qmv (hn : Nat.ble (dd + 1) n.n = true) (hx : evl l x = some (true, v)) (k : QL P n ops C K rest ((dd, true, v) :: l)) : QL P n ops C K (⟨some dd, .move x, ty, pos, af, none⟩ :: rest) l := QL.op Guard.none rfl hn (Pev.move hx yes) k
theorem qas (hn : Nat.ble (dd + 1) n.n = true) (hx : evl l x = some (true, v)) (k : QL P n ops C K rest ((dd, true, v) :: l)) : QL P n ops C K (⟨some dd, .assign x, ty, pos, af, none⟩ :: rest) l := QL.op Guard.none rfl hn (Pev.assign hx yes) k
theorem qbn {op : BinOp} {yt : TypeId} (hn : Nat.ble (dd + 1) n.n = true) (hx : evl l x = some (true, u)) (hy : evl l y = some (true, v)) (hb : Bin P op t u v r) (k : QL P n ops C K rest ((dd, true, r) :: l)) : QL P n ops C K (⟨some dd, .binOp op t x y yt, ty, pos, af, none⟩ :: rest) l := QL.op Guard.none rfl hn (Pev.bin hx (fun _ => rfl) hy (fun _ => rfl) (fun _ => hb)) k
theorem qfa {i off b o : Nat} (hn : Nat.ble (dd + 1) n.n = true) (hx : evl l x = some (true, .pointer (some ⟨b, o, none⟩))) (hf : fldAt P t i = some off) (k : QL P n ops C K rest ((dd, true, .pointer (some ⟨b, o + off, none⟩)) :: l)) : QL P n ops C K (⟨some dd, .fieldAddr t x i, ty, pos, af, none⟩ :: rest) l := QL.op Guard.none rfl hn (Pev.fld hx (fun _ => rfl) hf) k
theorem qld {b o : Nat} {t' : TypeId} {cs : List Value} (hn : Nat.ble (dd + 1) n.n = true) (hx : evl l x = some (true, .pointer (some ⟨b, o, none⟩))) (hp : blk b t' cs ∈ H) (hs : scalB P t = true) (hv : cs[o]? = some v) (k : QL P n ops (Cls H S) K rest ((dd, true, v) :: l)) : QL P n ops (Cls H S) K (⟨some dd, .load t x, ty, pos, af, none⟩ :: rest) l := QL.op Guard.none rfl hn (Pev.load_blk hx (fun _ => rfl) hp hs hv) k
end
end
end Go.Eng

/- Rows that a function grows by append: an item for the slice with its cells and the blocks that it has owned. General. No condition. -/
namespace Go.Eng
open Go.RowKit
theorem ownsRow_stab {w w' : World} {base n size : Nat} {e : TypeId} {v : Value} {xs : List Value} (hk : ∀ k, v.ownBlock = some k → w'.heap[k]? = w.heap[k]?) (h : w.ownsRow base e size v n xs) : w'.ownsRow base e size v n xs := by
  refine ⟨h.1, ?_⟩
  rcases h.2 with h2 | ⟨g, cap, cur, rfl, hb, hg, hr⟩
  · exact .inl h2
  · exact .inr ⟨g, cap, cur, rfl, hb, by rw [hk g rfl]; exact hg, hr⟩
/-- a grown row: the slice q n cap, cells xs; its blocks, now and before, lie in O, at base or above -/
def row (base : Nat) (O : Nat → Prop) (q : Option Addr) (n cap : Nat) (e : TypeId) (size : Nat) (xs : List Value) : Item :=
  ⟨fun k => base ≤ k ∧ O k, fun w => (∀ a, q = some a → O a.block) ∧ w.ownsRow base e size (.slice q n cap) n xs, fun w w' hk h => ⟨h.1, by
    refine ownsRow_stab (fun k hk' => ?_) h.2
    cases q with
    | none => simp [Value.ownBlock] at hk'
    | some a =>
      simp only [Value.ownBlock, Option.some.injEq] at hk'
      subst hk'
      rcases h.2.2 with ⟨h3, _⟩ | ⟨g, cap', cur, h3, hb, _⟩
      · cases h3
      · simp only [Value.slice.injEq, Option.some.injEq] at h3
        obtain ⟨rfl, _⟩ := h3
        exact hk _ ⟨hb, h.1 _ rfl⟩⟩⟩
section
variable {P : Program} {n : Nm} {l : Env} {H : List Item} {S : List World} {C : World → Prop} {c : Bool} {d : Option Nat} {ty : TypeId} {pos : String} {af : Array Edge} {g : Option (Nat × Bool)}
variable {ops : Array Oper} {rest : List Oper} {Q : Exit → Act → World → Prop}
variable {t : TypeId} {x y z : Operand} {cx cy cz : Bool}
theorem NotOwned.row {base m cap size k : Nat} {O : Nat → Prop} {q : Option Addr} {e : TypeId} {xs : List Value} (h : k < base) (r : NotOwned H k) : NotOwned (Eng.row base O q m cap e size xs :: H) k :=
  NotOwned.any (fun ho => Nat.not_le_of_lt h ho.1) r
theorem Cls.row_nil {w : World} (h : Cls H S w) (base : Nat) (e : TypeId) (size : Nat) : Cls (row base (fun _ => False) none 0 0 e size [] :: H) S w :=
  h.add (Keep.refl _ w) _ ⟨fun a ha => (by cases ha), World.ownsRow_nil w base e size⟩ (fun k hk => hk.2.elim)
theorem row_cell {w : World} {base m cap size o g0 : Nat} {O : Nat → Prop} {e : TypeId} {xs : List Value} {v : Value} (h : (row base O (some ⟨g0, 0, none⟩) m cap e size xs).holds w) (hv : xs[o]? = some v) : w.cell? ⟨g0, o, none⟩ = some v := by
  rcases h.2.2 with ⟨h3, _⟩ | ⟨g, cap', cur, h3, hb, hg, h4, h5, h6, h7⟩
  · cases h3
  · simp only [Value.slice.injEq, Option.some.injEq, Addr.mk.injEq] at h3
    obtain ⟨⟨rfl, _⟩, _⟩ := h3
    have : cur[o]? = some v := by
      rw [← h7] at hv
      have hl := (List.getElem?_eq_some_iff.1 hv).1
      rw [List.length_take] at hl
      rw [List.getElem?_take_of_lt (by omega)] at hv
      simpa using hv
    simp [World.cell?, hg, this]
theorem OL.newT {α : Type} {o : Oper} {dd : Nat} {C' : α → World → Prop} (hg : o.guard = none) (hd : o.dst = some dd) (hn : Nat.ble (dd + 1) n.n = true) (V : α → Value)
    (hv : ∀ a w, Sees n l a → C w → ∃ b w', (execOp a.eval o).run P w = .ok (.value (V b)) w' ∧ C' b w')
    (k : ∀ b, OL P n ops Q rest ((dd, true, V b) :: l) (C' b)) : OL P n ops Q (o :: rest) l C := by
  have hn' := Nat.le_of_ble_eq_true hn
  refine ⟨fun a w hs hc => ?_⟩
  refine wpList_plain hg fun K hK => ?_
  obtain ⟨b, w', hr, hc'⟩ := hv a w hs hc
  show Oper.upon P o a K Q ((execOp a.eval o).run P w)
  rw [hr]
  show K (a.put o.dst (V b)) w'
  rw [hd]
  exact hK _ _ ((k b).run _ w' (hs.put hn' true _) hc')
/-- element type, its cells and bytes, of a slice type one may append to -/
def rowElem (P : Program) (t : TypeId) : Option (TypeId × Nat × Nat) := match P.underlying t with
  | some (.slice e) => match P.info? e with
    | some i => match i.zero with
      | some z => match Nat.beq z.cells.size i.size && !Nat.beq i.size 0 with
        | true => match lit i.size, lit i.bytes with
          | some a, some b => some (e, a, b)
          | _, _ => none
        | false => none
      | none => none
    | none => none
  | _ => none
theorem oneL_mem : ∀ {vs : List Value}, oneL vs = true → ∀ u ∈ vs, u.oneCell' = true
  | [], _, u, hu => by cases hu
  | v :: r, h, u, hu => by
    simp only [oneL, Bool.and_eq_true] at h
    rcases List.mem_cons.1 hu with rfl | hu
    · exact h.1
    · exact oneL_mem h.2 u hu
theorem rowElem_spec {t e : TypeId} {sz by' : Nat} (h : rowElem P t = some (e, sz, by')) : ∃ i z, P.underlying t = some (.slice e) ∧ P.info? e = some i ∧ i.zero = some z ∧ i.size = sz ∧ i.bytes = by' ∧ z.cells.size = sz ∧ 0 < sz := by
  unfold rowElem at h
  split at h
  · rename_i e' he
    split at h
    · rename_i i hi
      split at h
      · rename_i z hz
        split at h
        · rename_i hb
          split at h
          · rename_i a b ha hb'
            simp only [Option.some.injEq, Prod.mk.injEq] at h
            obtain ⟨rfl, rfl, rfl⟩ := h
            simp only [Bool.and_eq_true, Nat.beq_eq, Bool.not_eq_true'] at hb
            have h1 := lit_eq ha
            have h2 := lit_eq hb'
            refine ⟨i, z, he, hi, hz, h1, h2, by rw [hb.1, h1], ?_⟩
            rw [← h1]
            rcases Nat.eq_zero_or_pos i.size with h0 | h0
            · rw [h0] at hb; simp at hb
            · exact h0
          · cases h
        · cases h
      · cases h
    · cases h
  · cases h
/-- the place of an item, and the list with another one there -/
inductive Hole : Nat → List Item → Item → (Item → List Item) → Prop where
  | z {i : Item} {H : List Item} : Hole 0 (i :: H) i (fun j => j :: H)
  | s {p : Nat} {k i : Item} {H : List Item} {F : Item → List Item} (h : Hole p H i F) : Hole (p + 1) (k :: H) i (fun j => k :: F j)
theorem Hole.au {p : Nat} {H : List Item} {i : Item} {F : Item → List Item} (h : Hole p H i F := by (repeat (first | apply Hole.z | apply Hole.s)); first | done | fail) : Hole p H i F := h
theorem Hole.eq {p : Nat} {H : List Item} {i : Item} {F : Item → List Item} (h : Hole p H i F) : H[p]? = some i ∧ ∀ j, F j = H.set p j := by
  induction h with
  | z => exact ⟨rfl, fun j => rfl⟩
  | s h ih => exact ⟨ih.1, fun j => by show _ :: _ = _ :: _; rw [ih.2 j]⟩
theorem OL.append {F : Item → List Item} {e : TypeId} {dd sz bb p m cap cap2 o b m2 : Nat} {base : Nat} {O : Nat → Prop} {q : Option Addr} {xs cs news : List Value} {t' : TypeId}
    (hx : evl l x = some (true, .slice q m cap)) (hy : evl l y = some (true, .slice (some ⟨b, o, none⟩) m2 cap2)) (hn : Nat.ble (dd + 1) n.n = true)
    (hu : rowElem P t = some (e, sz, bb)) (hp' : Hole p H (row base O q m cap e sz xs) F) (hb : blk b t' cs ∈ H) (ht : Take (m2 * sz) (cs.drop o) news) (h1 : oneL news = true) (hm2 : Nat.ble 1 m2 = true)
    (hs : ∃ s ∈ S, base ≤ s.heap.size) (hlim : (m + m2) ≤ 9223372036854775807 ∧ (m + m2) * bb ≤ 140737488355328)
    (k : ∀ (O' : Nat → Prop) (g' cap' : Nat), OL P n ops Q rest ((dd, true, .slice (some ⟨g', 0, none⟩) (m + m2) cap') :: l) (Cls (F (row base O' (some ⟨g', 0, none⟩) (m + m2) cap' e sz (xs ++ news))) S)) :
    OL P n ops Q (⟨some dd, .call { callee := .builtin .append, args := #[x, y], argTypes := #[t, t] }, ty, pos, af, none⟩ :: rest) l (Cls H S) := by
  have hp := hp'.eq.1
  have hF := hp'.eq.2
  refine OL.newT (α := (Nat → Prop) × Nat × Nat) (C' := fun r w => Cls (H.set p (row base r.1 (some ⟨r.2.1, 0, none⟩) (m + m2) r.2.2 e sz (xs ++ news))) S w) rfl rfl hn (fun r => .slice (some ⟨r.2.1, 0, none⟩) (m + m2) r.2.2) (fun a w hs' hc => ?_) (fun r => by rw [← hF]; exact k r.1 r.2.1 r.2.2)
  obtain ⟨i, z, g1, g2, g3, g4, g5, g6, g7⟩ := rowElem_spec hu
  obtain ⟨s, hsm, hsb⟩ := hs
  have hbw : base ≤ w.heap.size := Nat.le_trans hsb (hc.kp s hsm).size
  have hi := hc.item (List.mem_of_getElem? hp)
  have hnews : ∀ j u, news[j]? = some u → w.cell? ((⟨b, o, none⟩ : Addr).add j) = some u := fun j u hj => by
    rw [add_mid, blk_cell (hc.item hb)]
    have := ht.get.2 j u hj
    rwa [List.getElem?_drop] at this
  obtain ⟨v', w', hr, h2, h3, h4, h5⟩ := run_append_own_at (P := P) (w := w) base t ty e i z sz bb g1 g2 g3 g4 g5 g6 g7 _ m xs hi.2 ⟨b, o, none⟩ m2 cap2 news ht.get.1 hnews (fun u hu => oneL_mem h1 u hu) hlim.1 hlim.2 hbw
  have hpos : 1 ≤ m2 := Nat.le_of_ble_eq_true hm2
  rcases h2.2 with ⟨rfl, h0⟩ | ⟨g', cap', cur, rfl, hb', hg', hrest⟩
  · omega
  · refine ⟨(fun k => O k ∨ k = g', g', cap'), w', ?_, ?_⟩
    · simp only [execOp, resolve, invoke, builtin, Sem.run_bind, Sem.run_pure, Result.andThen_ok, List.map_toArray, List.map_cons, List.map_nil, hs'.eval hx rfl, hs'.eval hy rfl, hr]
    · have hown : ∀ k, some k = (Value.slice q m cap).ownBlock → base ≤ k ∧ O k := fun k hk => by
        cases q with
        | none => simp [Value.ownBlock] at hk
        | some a =>
          simp only [Value.ownBlock, Option.some.injEq] at hk
          subst hk
          exact ⟨(World.ownsRow.lt hi.2 _ rfl).1, hi.1 _ rfl⟩
      refine hc.turn p hp (j := row base (fun k => O k ∨ k = g') (some ⟨g', 0, none⟩) (m + m2) cap' e sz (xs ++ news)) ⟨h3.os, h3.tape, h3.output, h3.size, fun k hk hO => h3.block k hk (fun e => hO (hown k e))⟩ ?_ ?_ ?_
      · exact ⟨fun a ha => by cases ha; exact .inr rfl, h2⟩
      · intro k hk
        have hlt : g' < w'.heap.size := (Array.getElem?_eq_some_iff.1 hg').1
        rcases hk.2 with h | h
        · exact ⟨.inl ⟨hk.1, h⟩, Nat.lt_of_lt_of_le (hc.lt _ (List.mem_of_getElem? hp) k ⟨hk.1, h⟩) h3.size⟩
        · subst h
          refine ⟨?_, hlt⟩
          rcases h5 with h5 | h5
          · exact .inl (hown k (by rw [← h5]; rfl))
          · simp only [Value.ownBlock, Option.some.injEq] at h5
            exact .inr (by omega)
      · exact fun k hk => ⟨hk.1, .inl hk.2⟩
/-- a cell of a row -/
theorem Pev.load_row {b o base m cap size : Nat} {O : Nat → Prop} {e : TypeId} {xs : List Value} {v : Value} (hx : evl l x = some (cx, .pointer (some ⟨b, o, none⟩))) (hcx : c = true → cx = true)
    (hp : row base O (some ⟨b, 0, none⟩) m cap e size xs ∈ H) (hs : scalB P t = true) (hv : xs[o]? = some v) : Pev P n l (Cls H S) ⟨d, .load t x, ty, pos, af, g⟩ c v :=
  .load_of hx hcx fun _ w hw => run_loadVar_scal hs (row_cell (hw.item hp) hv)
theorem Pev.load_rowA {b o base m cap size k : Nat} {O : Nat → Prop} {e : TypeId} {xs vs : List Value} (hx : evl l x = some (cx, .pointer (some ⟨b, o, none⟩))) (hcx : c = true → cx = true)
    (hp : row base O (some ⟨b, 0, none⟩) m cap e size xs ∈ H) (hs : aggN P t = some k) (hv : Take k (xs.drop o) vs) : Pev P n l (Cls H S) ⟨d, .load t x, ty, pos, af, g⟩ c (.agg vs.toArray) :=
  .load_of hx hcx fun _ w hw => run_loadVar_agg (by rw [hv.get.1]; exact hs) fun j v hj => by
    rw [add_mid]
    have := hv.get.2 j v hj
    rw [List.getElem?_drop] at this
    exact row_cell (hw.item hp) this
end
end Go.Eng

/- Types as trees: how a value of type api.Type lies in memory. General. No condition. -/
namespace Go.Eng
open Go.RowKit
def I64 (x : Int) : Prop := -9223372036854775808 ≤ x ∧ x ≤ 9223372036854775807
inductive Ty where
  | mk (kind : Int) (name : ByteArray) (var : Int) (args : List Ty)
def Ty.kind : Ty → Int | .mk k _ _ _ => k
def Ty.name : Ty → ByteArray | .mk _ n _ _ => n
def Ty.var : Ty → Int | .mk _ _ v _ => v
def Ty.args : Ty → List Ty | .mk _ _ _ a => a
mutual
def Ty.sz : Ty → Nat
  | .mk _ _ _ «as» => Ty.szs «as» + 1
def Ty.szs : List Ty → Nat
  | [] => 0
  | t :: r => Ty.sz t + Ty.szs r
end
theorem Ty.sz_get : ∀ {«as» : List Ty} {i : Nat} {t : Ty}, «as»[i]? = some t → t.sz ≤ Ty.szs «as»
  | [], _, _, h => by simp at h
  | u :: r, 0, t, h => by simp at h; subst h; simp only [Ty.szs]; omega
  | u :: r, i + 1, t, h => by have := Ty.sz_get («as» := r) (i := i) (t := t) (by simpa using h); simp only [Ty.szs]; omega
mutual
/-- the four cells of a type; what they lead to lies below block B -/
def TyC (s : World) (B : Nat) : Ty → List Value → Prop
  | .mk k nm v «as», cs => ∃ (q : Option Addr) (cap : Nat), cs = [.int .i64 k, .string nm, .int .i64 v, .slice q «as».length cap] ∧ I64 k ∧ I64 v ∧ («as».length : Int) ≤ 9223372036854775807 ∧
      (0 < «as».length → ∃ a, q = some a ∧ a.block < B ∧ TyAll s B «as» a)
def TyAll (s : World) (B : Nat) : List Ty → Addr → Prop
  | [], _ => True
  | t :: r, a => (∃ cs, CellsAt s a cs ∧ TyC s B t cs) ∧ TyAll s B r (a.add 4)
end
theorem TyAll.get {s : World} {B : Nat} : ∀ {«as» : List Ty} {a : Addr} {i : Nat} {t : Ty}, TyAll s B «as» a → «as»[i]? = some t → ∃ cs, CellsAt s (a.add (i * 4)) cs ∧ TyC s B t cs
  | [], _, _, _, _, h => by simp at h
  | u :: r, a, 0, t, h, hi => by
    simp only [TyAll] at h
    simp at hi; subst hi
    obtain ⟨cs, h1, h2⟩ := h.1
    exact ⟨cs, h1, h2⟩
  | u :: r, a, i + 1, t, h, hi => by
    simp only [TyAll] at h
    obtain ⟨cs, h1, h2⟩ := TyAll.get (i := i) h.2 (by simpa using hi)
    rw [add_add] at h1
    exact ⟨cs, by rwa [show 4 + i * 4 = (i + 1) * 4 from by omega] at h1, h2⟩
theorem CellsAt.keep {s s' : World} {a : Addr} {cs : List Value} {B : Nat} (hk : ∀ p : Addr, p.block < B → s'.cell? p = s.cell? p) (hb : a.block < B) (h : CellsAt s a cs) : CellsAt s' a cs :=
  fun j v hj => by rw [hk _ (by rw [add_block]; exact hb)]; exact h j v hj
mutual
theorem TyC.keep {s s' : World} {B B' : Nat} (hk : ∀ p : Addr, p.block < B → s'.cell? p = s.cell? p) (hB : B ≤ B') : ∀ {t : Ty} {cs : List Value}, TyC s B t cs → TyC s' B' t cs
  | .mk k nm v «as», cs, h => by
    simp only [TyC] at h ⊢
    obtain ⟨q, cap, h1, h2, h3, h5, h4⟩ := h
    refine ⟨q, cap, h1, h2, h3, h5, fun hl => ?_⟩
    obtain ⟨a, ha, hb, hall⟩ := h4 hl
    exact ⟨a, ha, by omega, TyAll.keep hk hB hb hall⟩
theorem TyAll.keep {s s' : World} {B B' : Nat} (hk : ∀ p : Addr, p.block < B → s'.cell? p = s.cell? p) (hB : B ≤ B') : ∀ {«as» : List Ty} {a : Addr}, a.block < B → TyAll s B «as» a → TyAll s' B' «as» a
  | [], _, _, _ => by simp only [TyAll]
  | t :: r, a, hb, h => by
    simp only [TyAll] at h ⊢
    obtain ⟨⟨cs, h1, h2⟩, h3⟩ := h
    exact ⟨⟨cs, h1.keep hk hb, TyC.keep hk hB h2⟩, TyAll.keep hk hB (by rw [add_block]; exact hb) h3⟩
end
theorem TyC.len {s : World} {B : Nat} {t : Ty} {cs : List Value} (h : TyC s B t cs) : cs.length = 4 := by
  cases t
  simp only [TyC] at h
  obtain ⟨q, cap, rfl, _⟩ := h
  rfl
/-- below B all is as it was in s -/
theorem Cls.below {H : List Item} {S : List World} {w s : World} (h : Cls H S w) (hs : s ∈ S) {B : Nat} (hB : B ≤ s.heap.size) (hno : ∀ k, k < B → NotOwned H k) : ∀ p : Addr, p.block < B → w.cell? p = s.cell? p :=
  fun p hp => h.cell hs (by omega) (hno _ hp)
/-- items that are forgotten: only such as no kept world knows -/
inductive Thin (S : List World) : List Item → List Item → Prop where
  | nil : Thin S [] []
  | keep {i : Item} {H H' : List Item} (h : Thin S H H') : Thin S (i :: H) (i :: H')
  | blk {b : Nat} {t : TypeId} {c : List Value} {H H' : List Item} (hb : AllLe S b) (h : Thin S H H') : Thin S (blk b t c :: H) H'
  | any {i : Item} {H H' : List Item} (hb : ∀ k, i.own k → AllLe S k) (h : Thin S H H') : Thin S (i :: H) H'
theorem Thin.au {S : List World} {H H' : List Item} (h : Thin S H H' := by (repeat (first | exact Thin.nil | exact Thin.same | apply Thin.keep | (refine Thin.blk (by assumption) ?_) | (refine Thin.blk (by simp only [AllLe, and_true]; omega) ?_))); first | done | fail) : Thin S H H' := h
theorem AllLe.mem {S : List World} {k : Nat} (h : AllLe S k) : ∀ s ∈ S, s.heap.size ≤ k := by
  induction S with
  | nil => intro s hs; cases hs
  | cons x S ih =>
    intro s hs
    cases hs with
    | head => exact h.1
    | tail _ hs => exact ih h.2 s hs
theorem Thin.spec {S : List World} {H H' : List Item} (h : Thin S H H') : H'.Sublist H ∧ ∀ i ∈ H, i ∈ H' ∨ ∀ k, i.own k → AllLe S k := by
  induction h with
  | nil => exact ⟨.slnil, fun i hi => by cases hi⟩
  | @keep i H H' h ih =>
    refine ⟨ih.1.cons_cons _, fun j hj => ?_⟩
    cases hj with
    | head => exact .inl (.head _)
    | tail _ hj => exact (ih.2 j hj).imp (.tail _) id
  | @blk b t c H H' hb h ih =>
    refine ⟨ih.1.cons _, fun j hj => ?_⟩
    cases hj with
    | head => exact .inr fun k hk => by have hk' : k = b := hk; subst hk'; exact hb
    | tail _ hj => exact ih.2 j hj
  | @any i H H' hb h ih =>
    refine ⟨ih.1.cons _, fun j hj => ?_⟩
    cases hj with
    | head => exact .inr hb
    | tail _ hj => exact ih.2 j hj
theorem Cls.thin {H H' : List Item} {S : List World} {w : World} (h : Cls H S w) (ht : Thin S H H') : Cls H' S w := by
  obtain ⟨hs, hd⟩ := ht.spec
  refine ⟨fun i hi => h.holds i (hs.subset hi), fun i hi => h.lt i (hs.subset hi), h.dj.sublist hs, fun s hms => ?_⟩
  have hk := h.kp s hms
  refine ⟨hk.os, hk.tape, hk.output, hk.size, fun k hks hno => hk.block k hks ?_⟩
  rintro ⟨i, hi, hik⟩
  rcases hd i hi with h1 | h1
  · exact hno ⟨i, h1, hik⟩
  · have := (h1 k hik).mem s hms; omega
theorem Cls.toExt {H : List Item} {S : List World} {w s : World} (h : Cls H S w) (hs : s ∈ S) (hno : ∀ k, k < s.heap.size → NotOwned H k) : Ext s w :=
  (h.kp s hs).mono fun k hk ho => (hno k hk).not ho
theorem Cls.toKeep {O : Nat → Prop} {H : List Item} {S : List World} {w s : World} (h : Cls H S w) (hs : s ∈ S) (hno : ∀ k, k < s.heap.size → ¬ O k → NotOwned H k) : Keep O s w :=
  ⟨(h.kp s hs).os, (h.kp s hs).tape, (h.kp s hs).output, (h.kp s hs).size, fun k hk ho => (h.kp s hs).block k hk (hno k hk ho).not⟩
theorem Cls.fr {H : List Item} {S : List World} {w s : World} (h : Cls H S w) (hs : s ∈ S := by exact mau) (hno : ∀ k, k < s.heap.size → NotOwned H k := by exact fun k hk => NotOwned.au) : Ext s w := h.toExt hs hno
theorem blk_eq {b : Nat} {t : TypeId} {cs cs' : List Value} {w : World} (h : (blk b t cs).holds w) (e : cs = cs') : (blk b t cs').holds w := e ▸ h
end Go.Eng

/- Slices that are read: their cells in a world; slices of strings. General. No condition. -/
namespace Go.Eng
open Go.RowKit
/-- the cells vs of the slice that begins at q, in blocks under B -/
def SlAt (w : World) (B : Nat) (q : Option Addr) (vs : List Value) : Prop := 0 < vs.length → ∃ a, q = some a ∧ a.block < B ∧ CellsAt w a vs
theorem SlAt.nil {w : World} {B : Nat} {q : Option Addr} : SlAt w B q [] := fun h => by simp at h
theorem SlAt.keep {w w' : World} {B B' : Nat} {q : Option Addr} {vs : List Value} (h : SlAt w B q vs) (hb : ∀ p : Addr, p.block < B → w'.cell? p = w.cell? p) (hB : B ≤ B') : SlAt w' B' q vs := fun hv => by
  obtain ⟨a, rfl, hab, hc⟩ := h hv
  exact ⟨a, rfl, by omega, fun j v hj => (hb (a.add j) (by simpa [add_block] using hab)).trans (hc j v hj)⟩
theorem SlAt.ext {w w' : World} {B : Nat} {q : Option Addr} {vs : List Value} (h : SlAt w B q vs) (hx : Ext w w') (hB : B ≤ w.heap.size) : SlAt w' w'.heap.size q vs :=
  h.keep (fun p hp => World.cell?_of_block (hx.below.block p.block (by omega))) (Nat.le_trans hB hx.size)
theorem SlAt.up {w : World} {B B' : Nat} {q : Option Addr} {vs : List Value} (h : SlAt w B q vs) (hB : B ≤ B') : SlAt w B' q vs := fun hv => by
  obtain ⟨a, rfl, hab, hc⟩ := h hv
  exact ⟨a, rfl, by omega, hc⟩
theorem blk_lt {w : World} {b : Nat} {t : TypeId} {cs : List Value} (h : (blk b t cs).holds w) : b < w.heap.size := by
  have h' : w.heap[b]? = some (.cells cs.toArray t (0, 0)) := h
  exact (Array.getElem?_eq_some_iff.1 h').1
/-- the part from o on, m cells -/
theorem SlAt.part {w : World} {B : Nat} {a : Addr} {vs us : List Value} (o : Nat) (h : SlAt w B (some a) vs) (hu : ∀ j v, us[j]? = some v → vs[o + j]? = some v) : SlAt w B (some (a.add o)) us := fun hv => by
  have h0 : us[0]? = some us[0] := List.getElem?_eq_getElem hv
  have h1 := hu 0 _ h0
  have hl := (List.getElem?_eq_some_iff.1 h1).1
  obtain ⟨a', he, hab, hc⟩ := h (by omega)
  cases he
  exact ⟨_, rfl, by simpa [add_block] using hab, fun j v hj => by rw [add_add]; exact hc _ v (hu j v hj)⟩
/-- a block that is known whole, read as a slice -/
theorem SlAt.of_blk {w : World} {b o : Nat} {t : TypeId} {cs vs : List Value} (h : (blk b t cs).holds w) (hv : ∀ j v, vs[j]? = some v → cs[o + j]? = some v) : SlAt w w.heap.size (some ⟨b, o, none⟩) vs := fun _ =>
  ⟨_, rfl, blk_lt h, fun j v hj => by rw [add_mid, blk_cell h]; exact hv j v hj⟩
theorem SlAt.of_row {w : World} {base n cap size : Nat} {O : Nat → Prop} {q : Option Addr} {e : TypeId} {xs : List Value} (h : (row base O q n cap e size xs).holds w) : SlAt w w.heap.size q xs := fun hx => by
  have h2 := h.2
  rcases h2.2 with ⟨h3, h4⟩ | ⟨g, cap', cur, h3, hb, hg, h4, h5, h6, h7⟩
  · have := h2.1
    rw [h4] at this
    omega
  · simp only [Value.slice.injEq] at h3
    obtain ⟨rfl, _⟩ := h3
    have hlt : g < w.heap.size := (Array.getElem?_eq_some_iff.1 hg).1
    refine ⟨_, rfl, hlt, fun j v hj => ?_⟩
    rw [add_mid, Nat.zero_add]
    have h' : (row base O (some ⟨g, 0, none⟩) n cap e size xs).holds w := h
    exact row_cell h' hj
/-- does l have s? -/
def hasB (l : List ByteArray) (s : ByteArray) : Bool := l.any (fun u => decide (s = u))
theorem hasB_iff {l : List ByteArray} {s : ByteArray} : hasB l s = true ↔ s ∈ l := by simp [hasB]
theorem hasB_cons (u : ByteArray) (l : List ByteArray) (s : ByteArray) : hasB (u :: l) s = (decide (s = u) || hasB l s) := rfl
/-- the slice q holds the strings l -/
def strs (l : List ByteArray) : List Value := l.map .string
theorem strs_length (l : List ByteArray) : (strs l).length = l.length := by simp [strs]
theorem strs_get {l : List ByteArray} {i : Nat} {s : ByteArray} (h : l[i]? = some s) : (strs l)[i]? = some (.string s) := by simp [strs, h]
theorem SlAt.str {w : World} {B : Nat} {q : Option Addr} {l : List ByteArray} (h : SlAt w B q (strs l)) {i : Nat} (hi : i < l.length) :
    ∃ a s, q = some a ∧ a.block < B ∧ l[i]? = some s ∧ w.cell? (a.add (i * 1)) = some (.string s) := by
  obtain ⟨a, rfl, hab, hc⟩ := h (by rw [strs_length]; omega)
  have hs : l[i]? = some l[i] := List.getElem?_eq_getElem hi
  exact ⟨a, l[i], rfl, hab, hs, by rw [Nat.mul_one]; exact hc i _ (strs_get hs)⟩
end Go.Eng

/- Parts of slices, function values, stores into rows, made rows. General. No condition. -/
namespace Go.Eng
open Go.RowKit
section
variable {P : Program} {n : Nm} {l : Env} {H : List Item} {S : List World} {C : World → Prop} {c : Bool} {d : Option Nat} {ty : TypeId} {pos : String} {af : Array Edge} {g : Option (Nat × Bool)}
variable {ops : Array Oper} {rest : List Oper} {Q : Exit → Act → World → Prop}
variable {t : TypeId} {x y z : Operand} {cx cy cz : Bool}
def cutq (q : Option Addr) (cap i sz : Nat) : Option Addr := if cap = i then q else q.map (·.add (i * sz))
theorem SlAt.cut {w : World} {B : Nat} {q : Option Addr} {vs : List Value} {cap i sz : Nat} (h : SlAt w B q vs) (hl : vs.length ≤ cap * sz) : SlAt w B (cutq q cap i sz) (vs.drop (i * sz)) := by
  intro hv
  have hlt : i * sz < vs.length := by
    rw [List.length_drop] at hv; omega
  obtain ⟨a, rfl, hab, hc⟩ := h (by omega)
  have hne : ¬ cap = i := by
    intro e; subst e; omega
  refine ⟨a.add (i * sz), by simp [cutq, hne], by simpa [add_block] using hab, fun j v hj => ?_⟩
  rw [add_add]
  exact hc _ v (by rwa [List.getElem?_drop] at hj)
theorem Pev.slice_hi {e : TypeId} {sz len cp i : Nat} {k : IntKind} {j : Int} {q : Option Addr} (hx : evl l x = some (cx, .slice q len cp)) (hcx : c = true → cx = true) (hz : evl l z = some (cz, .int k j)) (hcz : c = true → cz = true)
    (hu : slElem P t = some (e, sz)) (hj : j = (i : Int)) (hb : c = true → i ≤ cp) : Pev P n l C ⟨d, .slice t x none (some z) none, ty, pos, af, g⟩ c (.slice q i cp) :=
  .of_run fun h a w hs hw => by
    subst hj
    have hb' := hb h
    unfold slElem at hu
    cases h1 : P.underlying t with
    | none => simp [h1] at hu
    | some d1 =>
      rw [h1] at hu
      cases d1 <;> simp only [reduceCtorEq] at hu
      rename_i e'
      cases h2 : sizeN P e' with
      | none => simp [h2] at hu
      | some k' =>
        simp only [execOp, hs.eval hx (hcx h), Option.map_some, Option.map_none, hs.eval hz (hcz h), Instr.sliceAt, Instr.slice, Sem.run_bind, run_underlying h1, Result.andThen_ok, Instr.sliceBounds, Instr.sliceBound, asIntOf, Sem.run_pure, run_sizeN h2]
        simp [hb', add_zero_]
theorem Pev.slice_lo {e : TypeId} {sz len cp i : Nat} {k : IntKind} {j : Int} {q : Option Addr} (hx : evl l x = some (cx, .slice q len cp)) (hcx : c = true → cx = true) (hy : evl l y = some (cy, .int k j)) (hcy : c = true → cy = true)
    (hu : slElem P t = some (e, sz)) (hj : j = (i : Int)) (hb : c = true → i ≤ len) : Pev P n l C ⟨d, .slice t x (some y) none none, ty, pos, af, g⟩ c (.slice (cutq q cp i sz) (len - i) (cp - i)) :=
  .of_run fun h a w hs hw => by
    subst hj
    have hb' := hb h
    unfold slElem at hu
    cases h1 : P.underlying t with
    | none => simp [h1] at hu
    | some d1 =>
      rw [h1] at hu
      cases d1 <;> simp only [reduceCtorEq] at hu
      rename_i e'
      cases h2 : sizeN P e' with
      | none => simp [h2] at hu
      | some k' =>
        rw [h2] at hu
        simp only [Option.some.injEq, Prod.mk.injEq] at hu
        obtain ⟨rfl, rfl⟩ := hu
        simp only [execOp, hs.eval hx (hcx h), Option.map_some, Option.map_none, hs.eval hy (hcy h), Instr.sliceAt, Instr.slice, Sem.run_bind, run_underlying h1, Result.andThen_ok, Instr.sliceBounds, Instr.sliceBound, asIntOf, Sem.run_pure, run_sizeN h2]
        simp [hb', cutq]
/-- an element's address, at a counted place that is known in range under the condition alone -/
theorem Pev.idxI {e : TypeId} {sz len cp : Nat} {ki : IntKind} {i : Int} {q : Addr} (hx : evl l x = some (cx, .slice (some q) len cp)) (hcx : c = true → cx = true) (hy : evl l y = some (cy, .int ki i)) (hcy : c = true → cy = true)
    (hu : slElem P t = some (e, sz)) (hi : c = true → 0 ≤ i ∧ i < len) : Pev P n l C ⟨d, .indexAddr t x y, ty, pos, af, g⟩ c (.pointer (some (q.add (i.toNat * sz)))) :=
  .of_run fun h a w hs hw => by
    obtain ⟨h1, h2⟩ := hi h
    obtain ⟨m, rfl⟩ := Int.eq_ofNat_of_zero_le h1
    simp only [execOp, hs.eval hx (hcx h), hs.eval hy (hcy h), Sem.run_bind, run_indexAt_slice hu (show m < len by omega), Result.andThen_ok]; rfl
theorem Pev.makeFunc {f : FuncId} {first caps : List Operand} {us vs : List Value} (h1 : Args l c first us) (h2 : Args l c caps vs) : Pev P n l C ⟨d, .makeFunc (.func f) first.toArray caps.toArray, ty, pos, af, g⟩ c (.func (.func f) us.toArray vs.toArray) :=
  .of_run fun h a w hs hw => by
    simp only [execOp, Instr.makeFunc]
    rw [List.map_toArray, List.map_toArray, h1.map hs h, h2.map hs h]
    rfl
end
end Go.Eng

/- From a law's walk to its row: the arguments read behind the call as before, where nothing that was there has turned; types as trees out of a reading. General. No condition. -/
namespace Go.Eng
open Go.RowKit Go.ChangeShapes Go.WideShapes Go.ChangeAt
section
variable {H : Type} {enc : TypeId × Value → H} {P : Program}
def readableB (P : Program) (ts : List TypeId) : Bool := ts.all fun t => P.readableRec t && Nat.blt t P.types.size
theorem trodAll_stays (hl : laidOutB P = true) {W W' : World} (hb : Below W.heap.size W W') {sp : Nat → Bool} :
    ∀ {ts : List TypeId} {vs : List Value} {ds : List (DataW H)} {ps : List MemPlace}, readableB P ts = true → DataW.TrodAll enc P W 0 (fun _ => true) true ts vs ds ps →
      (∀ x ∈ ps, x.block < W.heap.size) → (∀ x ∈ ps, sp x.block = true) → DataW.TrodAll enc P W' 0 sp true ts vs ds ps
  | [], vs, ds, ps, _, h, _, _ => by
    obtain ⟨rfl, rfl, rfl⟩ := trodAll_nil h
    exact trodAll_mk0
  | t :: ts, vs, ds, ps, hr, h, hlt, hsp => by
    obtain ⟨v, vs', d, ds', p, q, rfl, rfl, rfl, h0, h1⟩ := trodAll_cons h
    simp only [readableB, List.all_cons, Bool.and_eq_true] at hr
    have hrow : t < P.types.size := Nat.le_of_ble_eq_true hr.1.2
    exact trodAll_cons_mk (Go.WideElems.Trod_stays hl hr.1.1 hrow h0 (fun x hx => hb.same (hlt x (List.mem_append_left _ hx))) (fun x hx => hsp x (List.mem_append_left _ hx)))
      (trodAll_stays hl hb (by simpa [readableB] using hr.2) h1 (fun x hx => hlt x (List.mem_append_right _ hx)) (fun x hx => hsp x (List.mem_append_right _ hx)))
/-- THE LAW's LAST STEP: it returned true, and nothing that was there has turned. -/
theorem law_post {f : Func} {s : ChangeSpec} {W W' : World} {args : Array Value} {ds : List (DataW H)} {p : List MemPlace} {tb : TypeId} (hl : laidOutB P = true) (hrd : readableB P f.params.toList = true)
    (hv : s.vars = []) (hrt : f.resultTypes = #[tb]) (hu : P.underlying tb = some .bool) (hfn : s.fn H ds = { results := [.lit (.bool true)], args := ds })
    (hW : DataW.Whole enc P f.params.toList s.vars false W args.toList ds [] p) (hA : DataW.TrodAll enc P W 0 (fun _ => true) true f.params.toList args.toList ds p) (hb : Below W.heap.size W W') :
    s.post enc P f false true false false W args (.bool true) W' := by
  have hlt : ∀ x ∈ p, x.block < W.heap.size := fun x hx => hW.lt x hx
  have hargs : ∀ sp : Nat → Bool, (∀ x ∈ p, sp x.block = true) → DataW.TrodAll enc P W' 0 sp true f.params.toList args.toList ds p := fun sp hsp => trodAll_stays hl hb hrd hA hlt hsp
  have hres : ∀ (b : Nat) (sp : Nat → Bool) (hd : Bool), DataW.TrodAll enc P W' b sp hd f.resultTypes.toList ((Value.bool true).resultList f.resultTypes.size) [.lit (.bool true)] [] := by
    intro b sp hd
    rw [hrt]
    exact trodAll_cons_mk (shut_bool hu _) trodAll_mk0
  have hold : ∀ x ∈ p, (fun b => decide (b < W.heap.size)) x.block = true := fun x hx => by simpa using hlt x hx
  have hok : ∀ (j : Nat) (t : TypeId) (r : Value), f.resultTypes[j]? = some t → ((Value.bool true).resultList f.resultTypes.size)[j]? = some r → Value.okWide P W' .any 0 t r :=
    ok_one hrt rfl (okWide_bool_mk hu _)
  have hfn' : s.fn H (ds ++ []) = { results := [.lit (.bool true)], args := ds } := by rw [List.append_nil]; exact hfn
  have hvars : ∀ sp : Nat → Bool, DataW.TrodVars enc P W' sp s.vars (s.fn H (ds ++ [])).vars [] := fun sp => by rw [hv, hfn']; rfl
  refine ⟨ds, [], p, [], p, [], hW, ?_, ?_, ?_, World.keptBut_mono (fun x hx => ⟨hx, ?_⟩) (hb.frame (· ∈ p)), fun _ => ?_⟩
  · rw [hfn']; exact hres _ _ _
  · rw [hfn']; exact hargs _ hold
  · exact hvars _
  · exact .inr (by simpa using hx)
  · obtain ⟨_, _, _, _, _, hz, hn⟩ := hW
    refine ⟨hok, _, _, ([] ++ p) ++ [], ⟨[] ++ p, [], trodAll_append (hargs _ (fun _ _ => rfl)) (hres _ _ _), hvars _, rfl, ?_, ?_⟩, ?_⟩
    · intro b off hp
      have hin : MemPlace.cell b off ∈ p := by simpa using hp
      rw [hb.frozen (hlt _ hin)]
      exact hz b off hin
    · intro ha; cases ha
    · intro x hx _
      simpa using hx
/-! ### readings -/
variable {w : World} {spare : Nat → Bool} {held : Bool}
theorem cell_lt {a : Addr} {v : Value} (h : w.cell? a = some v) : a.block < w.heap.size := by
  unfold World.cell? at h
  rcases Nat.lt_or_ge a.block w.heap.size with hl | hl
  · exact hl
  · rw [Array.getElem?_eq_none hl] at h; cases h
theorem cellsAt_of {a : Addr} {n : Nat} {cs : List Value} (h : w.cells? 0 a n = some cs) : CellsAt w a cs ∧ cs.length = n := by
  obtain ⟨_, hl, hc⟩ := World.cells?_some h
  refine ⟨fun j v hj => ?_, hl⟩
  have hjl : j < n := by
    rw [← hl]
    exact (List.getElem?_eq_some_iff.1 hj).1
  rw [hc j hjl]; exact hj
/-- A SLICE THAT READS: nil, or its elements each read (with less fuel) -/
theorem slice_reads {t e : TypeId} {sz fuel : Nat} {cs : List Value} {x : DataW H × List MemPlace} (ht : P.underlying t = some (.slice e)) (hs : P.cellsOf e = sz) (h : DataW.trod enc P w 0 spare held fuel t cs = some x) :
    ∃ (q : Option Addr) (len cap : Nat), cs = [.slice q len cap] ∧ len ≤ cap ∧ cap ≤ maxLen ∧ (q = none → len = 0) ∧
      ∃ n, n < fuel ∧ ∀ a, q = some a → ∀ i, i < len → ∃ cs' y, CellsAt w (a.add (i * sz)) cs' ∧ cs'.length = sz ∧ DataW.trod enc P w 0 spare held n e cs' = some y := by
  rcases DataW.trod_slice ht h with ⟨rfl, _⟩ | ⟨a, len, cap, elems, rest, n, hf, rfl, _, _, hl, hm, hlen, hel, _, _⟩
  · refine ⟨none, 0, 0, rfl, Nat.le_refl _, by simp [maxLen], fun _ => rfl, 0, ?_, fun a ha => by cases ha⟩
    cases fuel with
    | zero => simp [DataW.trod] at h
    | succ n => omega
  · refine ⟨some a, len, cap, rfl, hl, hm, (fun hn => by cases hn), n, by omega, fun a' ha i hi => ?_⟩
    obtain rfl := Option.some.inj ha
    have h1 := hel i hi
    rw [List.getElem?_eq_getElem (by omega)] at h1
    rw [hs] at h1
    obtain ⟨cs', hc, ht'⟩ := Option.bind_eq_some_iff.1 h1
    obtain ⟨h2, h3⟩ := cellsAt_of hc
    exact ⟨cs', _, h2, h3, ht'⟩
theorem wf_i64 {m : Int} (h : (Lit.int .i64 m).wf = true) : I64 m := by
  simp only [Lit.wf, IntKind.min, IntKind.max, IntKind.signed, IntKind.bits, Bool.and_eq_true, decide_eq_true_eq] at h
  unfold I64
  have h1 := h.1; have h2 := h.2
  simp at h1 h2
  omega
/-- the elements of a slice as trees, one by one -/
theorem tyAll_of {B : Nat} : ∀ (len : Nat) (a : Addr), (∀ i, i < len → ∃ cs t, CellsAt w (a.add (i * 4)) cs ∧ TyC w B t cs) → ∃ ts : List Ty, ts.length = len ∧ TyAll w B ts a
  | 0, a, _ => ⟨[], rfl, by simp only [TyAll]⟩
  | len + 1, a, h => by
    obtain ⟨cs, t, h1, h2⟩ := h 0 (by omega)
    obtain ⟨ts, h3, h4⟩ := tyAll_of len (a.add 4) (fun i hi => by
      obtain ⟨cs, t, h5, h6⟩ := h (i + 1) (by omega)
      refine ⟨cs, t, ?_, h6⟩
      rw [add_add]
      rwa [show 4 + i * 4 = (i + 1) * 4 from by omega])
    exact ⟨t :: ts, by simp [h3], by simp only [TyAll]; exact ⟨⟨cs, h1, h2⟩, h4⟩⟩
/-- A TYPE THAT READS IS A TREE. -/
theorem ty_of {tT tS tI tN : TypeId} {f0 f1 f2 f3 : Field} (hT : P.underlying tT = some (.struct #[f0, f1, f2, f3])) (hI : P.underlying tI = some (.int .i64)) (hN : P.underlying tN = some .string) (hS : P.underlying tS = some (.slice tT))
    (h0 : f0.type = tI ∧ f0.offset = 0) (h1 : f1.type = tN ∧ f1.offset = 1) (h2 : f2.type = tI ∧ f2.offset = 2) (h3 : f3.type = tS ∧ f3.offset = 3)
    (c0 : P.cellsOf tI = 1) (c1 : P.cellsOf tN = 1) (c3 : P.cellsOf tS = 1) (cT : P.cellsOf tT = 4) :
    ∀ (fuel : Nat) {cs : List Value} {x : DataW H × List MemPlace}, DataW.trod enc P w 0 spare held fuel tT cs = some x → ∃ t, TyC w w.heap.size t cs := by
  intro fuel
  induction fuel using Nat.strongRecOn with
  | _ fuel ih =>
    intro cs x h
    obtain ⟨xs, n, hfu, hx, hlen, hxl, hf⟩ := DataW.trod_struct hT h
    rw [cT] at hlen
    match cs, hlen with
    | [a0, a1, a2, a3], _ =>
      have g0 := hf 0 f0 rfl
      have g1 := hf 1 f1 rfl
      have g2 := hf 2 f2 rfl
      have g3 := hf 3 f3 rfl
      simp only [List.size_toArray, List.length_cons, List.length_nil] at hxl
      rw [h0.1, h0.2, c0, List.getElem?_eq_getElem (by omega)] at g0
      rw [h1.1, h1.2, c1, List.getElem?_eq_getElem (by omega)] at g1
      rw [h2.1, h2.2, c0, List.getElem?_eq_getElem (by omega)] at g2
      rw [h3.1, h3.2, c3, List.getElem?_eq_getElem (by omega)] at g3
      obtain ⟨k, e0, _, w0⟩ := DataW.trod_int hI g0
      obtain ⟨s, e1, _, _⟩ := DataW.trod_string hN g1
      obtain ⟨v, e2, _, w2⟩ := DataW.trod_int hI g2
      obtain ⟨q, len, cap, e3, hle, hcap, hq0, m, hm, hel⟩ := slice_reads hS cT g3
      simp at e0 e1 e2 e3
      subst e0 e1 e2 e3
      have hnl : ∃ ts : List Ty, ts.length = len ∧ (0 < len → ∃ a, q = some a ∧ a.block < w.heap.size ∧ TyAll w w.heap.size ts a) := by
        cases q with
        | none => exact ⟨[], by simp [hq0 rfl], fun hl => by have := hq0 rfl; omega⟩
        | some a =>
          have hall : ∀ i, i < len → ∃ cs t, CellsAt w (a.add (i * 4)) cs ∧ TyC w w.heap.size t cs := fun i hi => by
            obtain ⟨cs', y, hc, hl4, ht⟩ := hel a rfl i hi
            obtain ⟨t, ht'⟩ := ih m (by omega) ht
            exact ⟨cs', t, hc, ht'⟩
          obtain ⟨ts, h5, h6⟩ := tyAll_of len a hall
          refine ⟨ts, h5, fun hl => ⟨a, rfl, ?_, h6⟩⟩
          obtain ⟨cs', y, hc, hl4, _⟩ := hel a rfl 0 hl
          cases cs' with
          | nil => simp at hl4
          | cons u r => exact cell_lt (a := a) (v := u) (hc 0 u rfl)
      obtain ⟨ts, rfl, hall⟩ := hnl
      refine ⟨.mk k s v ts, ?_⟩
      simp only [TyC]
      refine ⟨q, cap, rfl, wf_i64 w0, wf_i64 w2, ?_, hall⟩
      unfold maxLen at hcap
      omega
end
end Go.Eng

/- Slices whose elements take several cells: the cells of a list of things, element by element; in-place append and clear; slices in three numbers. General. No condition. -/
namespace Go.Eng
open Go.RowKit
theorem list_of {α : Type} (R : Nat → α → Prop) : ∀ (n : Nat), (∀ i, i < n → ∃ x, R i x) → ∃ l : List α, l.length = n ∧ ∀ i x, l[i]? = some x → R i x
  | 0, _ => ⟨[], rfl, fun i x h => by simp at h⟩
  | n + 1, h => by
    obtain ⟨l, hl, hr⟩ := list_of R n (fun i hi => h i (by omega))
    obtain ⟨x, hx⟩ := h n (by omega)
    refine ⟨l ++ [x], by simp [hl], fun i y hy => ?_⟩
    rcases Nat.lt_or_ge i l.length with hi | hi
    · rw [List.getElem?_append_left hi] at hy
      exact hr i y hy
    · rw [List.getElem?_append_right hi] at hy
      have h0 : i - l.length = 0 := by
        have := (List.getElem?_eq_some_iff.1 hy).1
        simpa using this
      rw [h0] at hy
      simp only [List.getElem?_cons_zero, Option.some.injEq] at hy
      subst hy
      obtain rfl : i = n := by omega
      exact hx
/-- the cells of the things of a list, one behind another -/
def cat {α : Type} (f : α → List Value) : List α → List Value
  | [] => []
  | x :: l => f x ++ cat f l
section
variable {α : Type} {f : α → List Value} {sz : Nat}
theorem cat_append (f : α → List Value) : ∀ (a b : List α), cat f (a ++ b) = cat f a ++ cat f b
  | [], b => rfl
  | x :: a, b => by rw [List.cons_append, cat, cat_append f a b, cat, List.append_assoc]
theorem cat_one (f : α → List Value) (x : α) : cat f [x] = f x := by simp [cat]
theorem cat_length (hf : ∀ x, (f x).length = sz) : ∀ (l : List α), (cat f l).length = l.length * sz
  | [] => by simp [cat]
  | x :: l => by rw [cat, List.length_append, cat_length hf l, hf, List.length_cons, Nat.succ_mul, Nat.add_comm]
theorem cat_take (hf : ∀ x, (f x).length = sz) : ∀ (l : List α) (i : Nat), (cat f l).take (i * sz) = cat f (l.take i)
  | l, 0 => by simp [cat]
  | [], i + 1 => by simp [cat]
  | x :: l, i + 1 => by
    rw [cat, List.take_succ_cons, cat, ← cat_take hf l i, Nat.succ_mul, Nat.add_comm, List.take_append, hf, List.take_of_length_le (by rw [hf]; omega)]
    congr 2
    omega
theorem cat_drop (hf : ∀ x, (f x).length = sz) : ∀ (l : List α) (i : Nat), (cat f l).drop (i * sz) = cat f (l.drop i)
  | l, 0 => by simp [cat]
  | [], i + 1 => by simp [cat]
  | x :: l, i + 1 => by
    rw [cat, List.drop_succ_cons, ← cat_drop hf l i, Nat.succ_mul, Nat.add_comm, List.drop_append, hf, List.drop_of_length_le (by rw [hf]; omega), List.nil_append]
    congr 1
    omega
theorem cat_get (hf : ∀ x, (f x).length = sz) {l : List α} {i : Nat} {x : α} (h : l[i]? = some x) : ∀ (j : Nat) (v : Value), (f x)[j]? = some v → (cat f l)[i * sz + j]? = some v := by
  intro j v hj
  have hi := (List.getElem?_eq_some_iff.1 h).1
  have hd := cat_drop hf l i
  rw [List.drop_eq_getElem_cons hi, cat] at hd
  have hx : l[i] = x := by
    rw [List.getElem?_eq_getElem hi] at h
    exact Option.some.inj h
  rw [hx] at hd
  have : ((cat f l).drop (i * sz))[j]? = some v := by
    rw [hd, List.getElem?_append_left (List.getElem?_eq_some_iff.1 hj).1]; exact hj
  rwa [List.getElem?_drop] at this
theorem cat_map {β : Type} (f : α → List Value) (g : β → α) : ∀ (l : List β), cat f (l.map g) = cat (fun x => f (g x)) l
  | [] => rfl
  | x :: l => by rw [List.map_cons, cat, cat_map f g l, cat]
theorem oneL_append : ∀ (a b : List Value), oneL a = true → oneL b = true → oneL (a ++ b) = true
  | [], b, _, hb => hb
  | v :: a, b, ha, hb => by
    simp only [oneL, Bool.and_eq_true] at ha
    rw [List.cons_append, oneL, ha.1, oneL_append a b ha.2 hb]; rfl
theorem cat_oneL (h : ∀ x, oneL (f x) = true) : ∀ (l : List α), oneL (cat f l) = true
  | [] => rfl
  | x :: l => oneL_append _ _ (h x) (cat_oneL h l)
/-- an element of a slice that is read -/
theorem SlAt.elem {w : World} {B : Nat} {q : Option Addr} {l : List α} (h : SlAt w B q (cat f l)) (hf : ∀ x, (f x).length = sz) (hsz : 0 < sz) {i : Nat} (hi : i < l.length) :
    ∃ a x, q = some a ∧ a.block < B ∧ l[i]? = some x ∧ CellsAt w (a.add (i * sz)) (f x) := by
  have hpos : 0 < (cat f l).length := by
    rw [cat_length hf]
    exact Nat.mul_pos (by omega) hsz
  obtain ⟨a, rfl, hab, hc⟩ := h hpos
  have hs : l[i]? = some l[i] := List.getElem?_eq_getElem hi
  exact ⟨a, l[i], rfl, hab, hs, fun j v hj => by rw [add_add]; exact hc _ v (cat_get hf hs j v hj)⟩
theorem SlAt.takeC {w : World} {B : Nat} {q : Option Addr} {l : List α} (h : SlAt w B q (cat f l)) (i : Nat) : SlAt w B q (cat f (l.take i)) := fun hv => by
  have e : cat f l = cat f (l.take i) ++ cat f (l.drop i) := by rw [← cat_append, List.take_append_drop]
  obtain ⟨a, rfl, hab, hc⟩ := h (by rw [e, List.length_append]; omega)
  refine ⟨a, rfl, hab, fun j v hj => hc j v ?_⟩
  rw [e, List.getElem?_append_left (List.getElem?_eq_some_iff.1 hj).1]; exact hj
theorem SlAt.dropC {w : World} {B : Nat} {q : Option Addr} {l : List α} {cap : Nat} (h : SlAt w B q (cat f l)) (hf : ∀ x, (f x).length = sz) (hcap : l.length ≤ cap) (i : Nat) : SlAt w B (cutq q cap i sz) (cat f (l.drop i)) := by
  rw [← cat_drop hf]
  exact h.cut (by rw [cat_length hf]; exact Nat.mul_le_mul_right _ hcap)
end
/-! the first place -/
/-- the place of the first one that satisfies p, from place k on; -1: none -/
def idxP {α : Type} (p : α → Bool) : List α → Nat → Int
  | [], _ => -1
  | s :: l, i => if p s then i else idxP p l (i + 1)
section
variable {α : Type} {f : α → List Value} {sz : Nat}
theorem idxP_get {p : α → Bool} {l : List α} {i k : Nat} {s : α} (h : l[i]? = some s) : idxP p (l.drop i) k = if p s then (k : Int) else idxP p (l.drop (i + 1)) (k + 1) := by
  have hi := (List.getElem?_eq_some_iff.1 h).1
  rw [List.drop_eq_getElem_cons hi, idxP]
  rw [List.getElem?_eq_getElem hi] at h
  rw [Option.some.inj h]
theorem idxP_end {p : α → Bool} {l : List α} {i k : Nat} (h : l.length ≤ i) : idxP p (l.drop i) k = -1 := by
  rw [List.drop_eq_nil_of_le h]; rfl
theorem idxP_nonneg (p : α → Bool) : ∀ (l : List α) (k : Nat), decide (0 ≤ idxP p l k) = l.any p
  | [], k => rfl
  | s :: l, k => by
    rw [idxP, List.any_cons]
    cases h : p s
    · simp only [Bool.false_eq_true, if_false, Bool.false_or]
      exact idxP_nonneg p l (k + 1)
    · simp only [if_true, Bool.true_or, decide_eq_true_eq]
      omega
theorem idxP_cases (p : α → Bool) : ∀ (l : List α) (k : Nat), (idxP p l k = -1 ∧ ∀ x ∈ l, p x = false) ∨ ∃ i x, l[i]? = some x ∧ p x = true ∧ idxP p l k = ((k + i : Nat) : Int) ∧ ∀ y ∈ l.take i, p y = false
  | [], k => .inl ⟨rfl, fun x hx => by cases hx⟩
  | s :: l, k => by
    cases h : p s with
    | true => exact .inr ⟨0, s, rfl, h, by simp [idxP, h], fun y hy => by simp at hy⟩
    | false =>
      rcases idxP_cases p l (k + 1) with ⟨h1, h2⟩ | ⟨i, x, h1, h2, h3, h4⟩
      · refine .inl ⟨by simp [idxP, h, h1], fun x hx => ?_⟩
        rcases List.mem_cons.1 hx with rfl | hx
        · exact h
        · exact h2 x hx
      · refine .inr ⟨i + 1, x, by simpa using h1, h2, by simp only [idxP, h, Bool.false_eq_true, if_false, h3]; omega, fun y hy => ?_⟩
        rw [List.take_succ_cons] at hy
        rcases List.mem_cons.1 hy with rfl | hy
        · exact h
        · exact h4 y hy
/-- a slice of structs that reads -/
theorem elems_of {H : Type} {enc : TypeId × Value → H} {P : Program} {w : World} {spare : Nat → Bool} {held : Bool} {t e : TypeId} {fuel : Nat} {cs : List Value} {x : DataW H × List MemPlace} (ht : P.underlying t = some (.slice e)) (hs : P.cellsOf e = sz) (hsz : 0 < sz) (hf : ∀ x, (f x).length = sz)
    (he : ∀ (n : Nat) (cs' : List Value) (y : DataW H × List MemPlace), n < fuel → DataW.trod enc P w 0 spare held n e cs' = some y → ∃ u : α, cs' = f u)
    (h : DataW.trod enc P w 0 spare held fuel t cs = some x) :
    ∃ (q : Option Addr) (l : List α) (cap : Nat), cs = [.slice q l.length cap] ∧ l.length ≤ cap ∧ cap ≤ maxLen ∧ SlAt w w.heap.size q (cat f l) := by
  obtain ⟨q, len, cap, rfl, hle, hcap, hq0, m, hm, hel⟩ := slice_reads ht hs h
  cases q with
  | none =>
    obtain rfl := hq0 rfl
    exact ⟨none, [], cap, rfl, hle, hcap, SlAt.nil⟩
  | some a =>
    obtain ⟨l, hl, hr⟩ := list_of (fun i (u : α) => CellsAt w (a.add (i * sz)) (f u)) len (fun i hi => by
      obtain ⟨cs', y, hc, hl1, ht'⟩ := hel a rfl i hi
      obtain ⟨u, rfl⟩ := he m cs' y hm ht'
      exact ⟨u, hc⟩)
    subst hl
    refine ⟨some a, l, cap, rfl, hle, hcap, fun hv => ⟨a, rfl, ?_, fun j v hj => ?_⟩⟩
    · rw [cat_length hf] at hv
      have hl0 : 0 < l.length := Nat.pos_of_mul_pos_right hv
      have h0 := hr 0 _ (List.getElem?_eq_getElem hl0)
      rw [Nat.zero_mul, add_zero_] at h0
      have hz : 0 < (f l[0]).length := by rw [hf]; exact hsz
      have := h0 0 _ (List.getElem?_eq_getElem hz)
      rw [add_zero_] at this
      exact cell_lt this
    · have hjl := (List.getElem?_eq_some_iff.1 hj).1
      rw [cat_length hf] at hjl
      have hi : j / sz < l.length := Nat.div_lt_of_lt_mul (by rwa [Nat.mul_comm] at hjl)
      have h0 := hr (j / sz) _ (List.getElem?_eq_getElem hi)
      have hm' : j % sz < (f l[j / sz]).length := by rw [hf]; exact Nat.mod_lt _ hsz
      have h1 := cat_get hf (List.getElem?_eq_getElem hi) (j % sz) _ (List.getElem?_eq_getElem hm')
      have ej : j / sz * sz + j % sz = j := by rw [Nat.mul_comm]; exact Nat.div_add_mod j sz
      rw [ej, hj] at h1
      have h2 := h0 (j % sz) _ (List.getElem?_eq_getElem hm')
      rw [add_add, ej] at h2
      rw [h2, h1]
end
end Go.Eng

/- Made slices of one-cell elements, and a square of rows. General. No condition. -/
namespace Go.Eng
open Go.RowKit
section
variable {P : Program} {n : Nm} {l : Env} {H : List Item} {S : List World} {C : World → Prop} {ty : TypeId} {pos : String} {af : Array Edge}
variable {ops : Array Oper} {rest : List Oper} {Q : Exit → Act → World → Prop} {t : TypeId} {x y : Operand}
theorem madeCells_one (z0 : Value) (m : Nat) : madeCells #[z0] m = (List.replicate m z0).toArray := by
  apply Array.ext
  · simp [madeCells]
  · intro i h1 h2
    simp [madeCells, Nat.mod_one]
/-- the zero value of a type, where it is one cell -/
def zeroCell (P : Program) (e : TypeId) : Option Value := match P.info? e with
  | some i => match i.zero with
    | some z => match z.cells.toList with
      | [z0] => some z0
      | _ => none
    | none => none
  | none => none
theorem OL.makeSlice {e : TypeId} {dd m bb : Nat} {z0 : Value} {k1 k2 : IntKind} {a1 a2 : Int} (hx : evl l x = some (true, .int k1 a1)) (hy : evl l y = some (true, .int k2 a2)) (hn : Nat.ble (dd + 1) n.n = true)
    (hu : rowElem P t = some (e, 1, bb)) (hz : zeroCell P e = some z0) (h1 : a1 = (m : Int)) (h2 : a2 = (m : Int)) (hlim : m ≤ 9223372036854775807 ∧ m * bb ≤ 140737488355328)
    (k : ∀ b, AllLe S b → OL P n ops Q rest ((dd, true, .slice (some ⟨b, 0, none⟩) m m) :: l) (Cls (blk b e (List.replicate m z0) :: H) S)) :
    OL P n ops Q (⟨some dd, .makeSlice t x y, ty, pos, af, none⟩ :: rest) l (Cls H S) := by
  obtain ⟨i, z, g1, g2, g3, g4, g5, g6, g7⟩ := rowElem_spec hu
  subst h1
  subst h2
  have hcell : z.cells = #[z0] := by
    unfold zeroCell at hz
    rw [g2] at hz
    simp only [g3] at hz
    split at hz
    · rename_i z1 he
      obtain rfl := Option.some.inj hz
      apply Array.ext'
      exact he
    · cases hz
  refine OL.new (C' := fun b w => AllLe S b ∧ Cls (blk b e (List.replicate m z0) :: H) S w) rfl rfl hn (fun b => .slice (some ⟨b, 0, none⟩) m m) (fun a w hs hc => ⟨w.heap.size, w.alloc (.cells (List.replicate m z0).toArray e), ?_, AllLe.mk hc, hc.alloc e (List.replicate m z0)⟩) (fun b => ⟨fun a w hs hc => (k b hc.1).run a w hs hc.2⟩)
  have hb : (i.bytes : Int) * (m : Int) ≤ 281474976710656 := by
    have h3 := hlim.2
    rw [← g5, Nat.mul_comm] at h3
    have h5 : ((i.bytes * m : Nat) : Int) ≤ ((140737488355328 : Nat) : Int) := Int.ofNat_le.2 h3
    rw [Int.natCast_mul] at h5
    exact Int.le_trans h5 (by decide)
  have hr := run_make (P := P) w t e i z g1 g2 g3 k1 k2 (m : Int) (m : Int) (by omega) (by omega) hb (by omega)
  rw [hcell, g4, Nat.mul_one, Int.toNat_natCast, madeCells_one] at hr
  simp only [execOp, hs.eval hx rfl, hs.eval hy rfl, Sem.run_bind, hr, Result.andThen_ok]
  rfl
end
end Go.Eng

/- A square of rows: blocks of one element type, told as a list of rows. General. No condition. -/
namespace Go.Eng
open Go.RowKit
/-- the blocks bs hold the rows -/
def grid (bs : List Nat) (t : TypeId) (rows : List (List Value)) : Item :=
  ⟨fun k => k ∈ bs, fun w => bs.length = rows.length ∧ bs.Nodup ∧ ∀ (i b : Nat) (r : List Value), bs[i]? = some b → rows[i]? = some r → w.heap[b]? = some (.cells r.toArray t (0, 0)),
    fun w w' hk h => ⟨h.1, h.2.1, fun i b r hb hr => (hk b (List.mem_of_getElem? hb)).trans (h.2.2 i b r hb hr)⟩⟩
theorem grid_blk {w : World} {bs : List Nat} {t : TypeId} {rows : List (List Value)} {i b : Nat} {r : List Value} (h : (grid bs t rows).holds w) (hb : bs[i]? = some b) (hr : rows[i]? = some r) : (blk b t r).holds w := h.2.2 i b r hb hr
theorem grid_nil (w : World) (t : TypeId) : (grid [] t []).holds w := ⟨rfl, List.nodup_nil, fun i b r hb => by simp at hb⟩
theorem NotOwned.grid {H : List Item} {bs : List Nat} {t : TypeId} {rows : List (List Value)} {k B : Nat} (h : ∀ b, b ∈ bs → B ≤ b) (hk : k < B) (r : NotOwned H k) : NotOwned (Eng.grid bs t rows :: H) k :=
  NotOwned.any (fun hm => Nat.not_le_of_lt hk (h k hm)) r
section
variable {P : Program} {n : Nm} {l : Env} {H : List Item} {S : List World} {C : World → Prop} {c : Bool} {d : Option Nat} {ty : TypeId} {pos : String} {af : Array Edge} {g : Option (Nat × Bool)}
variable {ops : Array Oper} {rest : List Oper} {Q : Exit → Act → World → Prop} {t : TypeId} {x y : Operand} {cx cy : Bool}
theorem Cls.grid_start {w : World} (h : Cls H S w) (t : TypeId) : Cls (grid [] t [] :: H) S w :=
  h.add (Keep.refl _ w) _ (grid_nil w t) (fun k hk => by cases hk)
/-- a new block becomes the next row -/
theorem Cls.grid_push {w : World} {b : Nat} {t : TypeId} {r : List Value} {bs : List Nat} {rows : List (List Value)} (h : Cls (blk b t r :: grid bs t rows :: H) S w) : Cls (grid (bs ++ [b]) t (rows ++ [r]) :: H) S w := by
  have hg := h.item (i := grid bs t rows) (by simp)
  have hb := h.item (i := blk b t r) (by simp)
  have hd := h.dj
  rw [List.pairwise_cons, List.pairwise_cons] at hd
  obtain ⟨hb1, hg1, hH⟩ := hd
  have hnot : b ∉ bs := fun hm => hb1 (grid bs t rows) (by simp) b rfl hm
  refine ⟨fun i hi => ?_, fun i hi => ?_, ?_, fun s hs => (h.kp s hs).mono fun k _ ⟨i, hi, hk⟩ => ?_⟩
  · rcases List.mem_cons.1 hi with rfl | hi
    · refine ⟨by simp [hg.1], ?_, fun i b' r' hb' hr' => ?_⟩
      · rw [List.nodup_append]
        exact ⟨hg.2.1, by simp, fun a ha b' hb' => by
          rw [List.mem_singleton.1 hb']
          exact fun e => hnot (e ▸ ha)⟩
      · rcases Nat.lt_or_ge i bs.length with hl | hl
        · rw [List.getElem?_append_left hl] at hb'
          rw [List.getElem?_append_left (by rw [← hg.1]; exact hl)] at hr'
          exact hg.2.2 i b' r' hb' hr'
        · rw [List.getElem?_append_right hl] at hb'
          rw [List.getElem?_append_right (by rw [← hg.1]; exact hl), ← hg.1] at hr'
          have h0 : i - bs.length = 0 := by
            have := (List.getElem?_eq_some_iff.1 hb').1
            simpa using this
          rw [h0] at hb' hr'
          simp only [List.getElem?_cons_zero, Option.some.injEq] at hb' hr'
          subst hb'
          subst hr'
          exact hb
    · exact h.holds i (by simp [hi])
  · rcases List.mem_cons.1 hi with rfl | hi
    · intro k hk
      rcases List.mem_append.1 hk with hk | hk
      · exact h.lt (grid bs t rows) (by simp) k hk
      · exact h.lt (blk b t r) (by simp) k (List.mem_singleton.1 hk)
    · exact h.lt i (by simp [hi])
  · rw [List.pairwise_cons]
    refine ⟨fun j hj k hk => ?_, hH⟩
    rcases List.mem_append.1 hk with hk | hk
    · exact hg1 j hj k hk
    · exact hb1 j (by simp [hj]) k (List.mem_singleton.1 hk)
  · rcases List.mem_cons.1 hi with rfl | hi
    · exact ⟨_, List.mem_cons_self, List.mem_append.2 (.inr (List.mem_singleton.2 hk))⟩
    · rcases List.mem_cons.1 hi with rfl | hi
      · exact ⟨_, List.mem_cons_self, List.mem_append.2 (.inl hk)⟩
      · exact ⟨i, List.mem_cons_of_mem _ hi, hk⟩
/-- a cell that every world of the class holds -/
theorem Pev.load_cls {a : Addr} {v : Value} (hx : evl l x = some (cx, .pointer (some a))) (hcx : c = true → cx = true) (hs : scalB P t = true) (hv : c = true → ∀ w, C w → w.cell? a = some v) : Pev P n l C ⟨d, .load t x, ty, pos, af, g⟩ c v :=
  .load_of hx hcx fun h w hw => run_loadVar_scal hs (hv h w hw)
/-- a store of one cell into a row of a square -/
theorem OL.storeG {b o i : Nat} {t' : TypeId} {bs : List Nat} {rows : List (List Value)} {r : List Value} {v : Value} {p : Nat} {F : Item → List Item} (hx : evl l x = some (true, .pointer (some ⟨b, o, none⟩))) (hy : evl l y = some (true, v)) (hv : v.cells = #[v])
    (hs : sizeN P t = some 1) (h1 : oneL [v] = true) (hH : Hole p H (grid bs t' rows) F) (hb : bs[i]? = some b) (hr : rows[i]? = some r) (hl : o < r.length)
    (kk : OL P n ops Q rest l (Cls (F (grid bs t' (rows.set i (r.set o v)))) S)) : OL P n ops Q (⟨none, .store t x y, ty, pos, af, none⟩ :: rest) l (Cls H S) := by
  obtain ⟨hp, hF⟩ := hH.eq
  rw [hF] at kk
  refine OL.store_ (C' := Cls (H.set p (grid bs t' (rows.set i (r.set o v)))) S) rfl rfl (fun a w hs' hc => ?_) kk
  have hg := hc.item (List.mem_of_getElem? hp)
  obtain ⟨w', hr', hh, hkp⟩ := run_storeAt_blk (P := P) (o := o) (vs := [v]) (grid_blk hg hb hr) hs hv rfl (show o + 1 ≤ r.length from hl) h1
  refine ⟨w', ?_, hc.turn p hp (j := grid bs t' (rows.set i (r.set o v))) ⟨hkp.os, hkp.tape, hkp.output, hkp.size, fun k hk hn => hkp.block k hk (fun e => hn (by rw [show k = b from e]; exact List.mem_of_getElem? hb))⟩ ?_ (fun q hq => ⟨.inl hq, Nat.lt_of_lt_of_le (hc.lt _ (List.mem_of_getElem? hp) q hq) hkp.size⟩) (fun q hq => hq)⟩
  · simp only [execOp, hs'.eval hx rfl, hs'.eval hy rfl, Sem.run_bind, hr', Result.andThen_ok]; rfl
  · refine ⟨by simp [hg.1], hg.2.1, fun i' b' r' hb' hr'' => ?_⟩
    by_cases hi : i = i'
    · subst hi
      rw [hb] at hb'
      obtain rfl := Option.some.inj hb'
      have hlt := (List.getElem?_eq_some_iff.1 hr).1
      rw [List.getElem?_set_self hlt] at hr''
      obtain rfl := Option.some.inj hr''
      exact hh
    · rw [List.getElem?_set_ne hi] at hr''
      have hne : b' ≠ b := fun e => by
        subst e
        have h1' := (List.getElem?_eq_some_iff.1 hb).1
        exact hi ((List.getElem?_inj h1' hg.2.1).1 (hb.trans hb'.symm))
      have hlt := hc.lt _ (List.mem_of_getElem? hp) b' (List.mem_of_getElem? hb')
      rw [hkp.block b' hlt hne]
      exact hg.2.2 i' b' r' hb' hr''
end
end Go.Eng

/- A guard that is known to hold is put away; slices held against nil; readings of slices of strings. General. No condition. -/
namespace Go.Eng
open Go.RowKit
section
variable {P : Program} {n : Nm} {l : Env} {H : List Item} {S : List World} {C : World → Prop} {c : Bool} {d : Option Nat} {op : Op} {ty : TypeId} {pos : String} {af : Array Edge} {g : Option (Nat × Bool)}
variable {ops : Array Oper} {rest : List Oper} {Q : Exit → Act → World → Prop} {x y : Operand} {cx cy : Bool} {t : TypeId}
theorem OL.ungate (hg : Guard l ops g c) (hc : c = true) (h : OL P n ops Q (⟨d, op, ty, pos, af, none⟩ :: rest) l C) : OL P n ops Q (⟨d, op, ty, pos, af, g⟩ :: rest) l C := by
  refine ⟨fun a w hs hw => ?_⟩
  have h1 := h.run a w hs hw
  have hwant := Guard.wanted (o := ⟨d, op, ty, pos, af, g⟩) hs hg
  rw [hc] at hwant
  unfold wpList at h1 ⊢
  rw [if_pos hwant]
  rw [if_pos (by simp [Region.wanted])] at h1
  exact h1
theorem OL.gateOff {dd : Nat} (hg : Guard l ops g c) (hc : c = false) (hn : Nat.ble (dd + 1) n.n = true) (h : OL P n ops Q rest ((dd, false, undef) :: l) C) : OL P n ops Q (⟨some dd, op, ty, pos, af, g⟩ :: rest) l C := by
  refine ⟨fun a w hs hw => ?_⟩
  have hwant := Guard.wanted (o := ⟨some dd, op, ty, pos, af, g⟩) hs hg
  rw [hc] at hwant
  unfold wpList
  rw [if_neg (by simp [hwant])]
  exact h.run _ w (hs.put (Nat.le_of_ble_eq_true hn) false undef) hw
theorem slElem_und {e : TypeId × Nat} (hu : slElem P t = some e) : P.underlying t = some (.slice e.1) := by
  unfold slElem at hu
  cases h1 : P.underlying t with
  | none => simp [h1] at hu
  | some d1 =>
    rw [h1] at hu
    cases d1 <;> simp only [reduceCtorEq] at hu
    rename_i e'
    cases h2 : sizeN P e' with
    | none => simp [h2] at hu
    | some k' =>
      rw [h2] at hu
      obtain rfl := Option.some.inj hu
      rfl
theorem guard_slice {op : BinOp} {x y : Operand} {q q' : Option Addr} {m cp m' c' : Nat} {w : World} : (eqGuard op t x y (.slice q m cp) (.slice q' m' c')).run P w = .ok () w := by cases op <;> rfl
theorem Bin.slice_nil {q : Option Addr} {m cp m' c' : Nat} {e : TypeId × Nat} (hu : slElem P t = some e) : Bin P .eql t (.slice q m cp) (.slice none m' c') (.bool q.isNone) := ⟨fun x y w => by
  rw [Sem.run_bind, guard_slice, Result.andThen_ok]
  simp only [binOp]
  simp [Op.equal, Op.maxDepth, Lib.run_equalIn_slice_nil w 9999 t e.1 q m cp m' c' (slElem_und hu)]⟩
theorem Bin.slice_nnil {q : Option Addr} {m cp m' c' : Nat} {e : TypeId × Nat} (hu : slElem P t = some e) : Bin P .neq t (.slice q m cp) (.slice none m' c') (.bool (!q.isNone)) := ⟨fun x y w => by
  rw [Sem.run_bind, guard_slice, Result.andThen_ok]
  exact run_neq_slice_nil_any w t e.1 q m cp m' c' (slElem_und hu)⟩
end
/-! readings -/
section
variable {H : Type} {enc : TypeId × Value → H} {P : Program} {w : World} {spare : Nat → Bool} {held : Bool}
/-- a slice of strings that reads -/
theorem strs_of {t e : TypeId} {fuel : Nat} {cs : List Value} {x : DataW H × List MemPlace} (ht : P.underlying t = some (.slice e)) (he : P.underlying e = some .string) (hs : P.cellsOf e = 1) (h : DataW.trod enc P w 0 spare held fuel t cs = some x) :
    ∃ (q : Option Addr) (l : List ByteArray) (cap : Nat), cs = [.slice q l.length cap] ∧ l.length ≤ cap ∧ cap ≤ maxLen ∧ SlAt w w.heap.size q (strs l) := by
  obtain ⟨q, len, cap, rfl, hle, hcap, hq0, m, hm, hel⟩ := slice_reads ht hs h
  cases q with
  | none =>
    obtain rfl := hq0 rfl
    exact ⟨none, [], cap, rfl, hle, hcap, SlAt.nil⟩
  | some a =>
    obtain ⟨l, hl, hr⟩ := list_of (fun i (s : ByteArray) => w.cell? (a.add (i * 1)) = some (.string s)) len (fun i hi => by
      obtain ⟨cs', y, hc, hl1, ht'⟩ := hel a rfl i hi
      obtain ⟨s, e1, _, _⟩ := DataW.trod_string he ht'
      subst e1
      exact ⟨s, hc 0 _ rfl⟩)
    subst hl
    refine ⟨some a, l, cap, rfl, hle, hcap, fun hv => ⟨a, rfl, ?_, fun j v hj => ?_⟩⟩
    · rw [strs_length] at hv
      have := hr 0 _ (List.getElem?_eq_getElem hv)
      rw [Nat.zero_mul] at this
      exact cell_lt this
    · unfold strs at hj
      rw [List.getElem?_map] at hj
      obtain ⟨s, hs', rfl⟩ := Option.map_eq_some_iff.1 hj
      have := hr j s hs'
      rwa [Nat.mul_one] at this
end
end Go.Eng

/- A region that draws its order, whose first operations are quiet and whose last ones write memory, one behind another. General. No condition. -/
namespace Go.Eng
open Go.RowKit
section
variable {P : Program} {ops : Array Oper} {C : World → Prop} {Q : Exit → Act → World → Prop} {m : Nat}
def allB (m : Nat) (listed : Array Bool) : Bool := (List.range m).all fun j => listed.getD j false
theorem allB_no {m i : Nat} {listed : Array Bool} (hi : i < m) (h : listed.getD i true = false) : allB m listed = false := by
  rw [Bool.eq_false_iff]
  intro ht
  have := List.all_eq_true.1 ht i (List.mem_range.2 hi)
  rcases Nat.lt_or_ge i listed.size with h' | h'
  · simp [h'] at h this; rw [h] at this; cases this
  · simp [Array.getElem?_eq_none h'] at h
def wpH (P : Program) (ops : Array Oper) (C : World → Prop) (Q : Exit → Act → World → Prop) (m : Nat) : Nat → Array Bool → Act → Prop
  | 0, listed, a => allB m listed = true ∧ ∀ w, C w → wpAny P .any ops Q 0 listed a w
  | f + 1, listed, a => (allB m listed = true → ∀ w, C w → wpAny P .any ops Q (f + 1) listed a w) ∧
      (allB m listed = false → Region.ready .any ops listed ≠ [] ∧ ∀ i ∈ Region.ready .any ops listed, qOp P ops C i (wpH P ops C Q m f (listed.setIfInBounds i true)) a)
theorem wpH_all {f : Nat} {listed : Array Bool} {a : Act} (ht : allB m listed = true) (h : ∀ w, C w → wpAny P .any ops Q f listed a w) : wpH P ops C Q m f listed a := by
  cases f with
  | zero => exact ⟨ht, h⟩
  | succ f => exact ⟨fun _ => h, fun h0 => by rw [ht] at h0; cases h0⟩
theorem wpAny_of_H : ∀ (f : Nat) (listed : Array Bool) (a : Act) (w : World), C w → wpH P ops C Q m f listed a → wpAny P .any ops Q f listed a w
  | 0, _, _, w, hw, h => h.2 w hw
  | f + 1, listed, a, w, hw, h => by
    cases ht : allB m listed with
    | true => exact h.1 ht w hw
    | false => exact ⟨fun h0 => absurd h0 (h.2 ht).1, fun i hi => wpOp_of_qOp hw (fun a' w' hw' => wpAny_of_H f _ a' w' hw') ((h.2 ht).2 i hi)⟩
/-- does j wait for i, directly or through others? -/
def waitsB (ops : Array Oper) : Nat → Nat → Nat → Bool
  | 0, _, _ => false
  | f + 1, j, i => match ops[j]? with
    | some o => o.after.any fun e => Region.binds .any e && (Nat.beq e.on i || waitsB ops f e.on i)
    | none => false
def waitB (ops : Array Oper) (m : Nat) : Bool := (List.range ops.size).all fun j => Nat.blt j m || (List.range m).all fun i => waitsB ops ops.size j i
theorem waitB_spec (h : waitB ops m = true) {j : Nat} {o : Oper} (hj : ops[j]? = some o) (hm : m ≤ j) {i : Nat} (hi : i < m) : waitsB ops ops.size j i = true := by
  have hlt := (Array.getElem?_eq_some_iff.1 hj).1
  have h1 := List.all_eq_true.1 h j (List.mem_range.2 hlt)
  simp only [Bool.or_eq_true] at h1
  rcases h1 with h1 | h1
  · have : j < m := Nat.le_of_ble_eq_true h1
    omega
  · exact List.all_eq_true.1 h1 i (List.mem_range.2 hi)
/-- whatever is done, all that it waits for is done -/
def Dn (ops : Array Oper) (listed : Array Bool) : Prop := ∀ j o, ops[j]? = some o → listed.getD j false = true → ∀ e ∈ o.after, Region.binds .any e = true → listed.getD e.on false = true
theorem getD_ft {listed : Array Bool} {i : Nat} (h : listed.getD i true = false) : listed.getD i false = false := by
  rcases Nat.lt_or_ge i listed.size with h' | h'
  · simp [h'] at h ⊢; exact h
  · simp [Array.getElem?_eq_none h'] at h
theorem waits_done {listed : Array Bool} (hD : Dn ops listed) {i : Nat} : ∀ (f j : Nat) (o : Oper), ops[j]? = some o → (∀ e ∈ o.after, Region.binds .any e = true → listed.getD e.on false = true) → waitsB ops f j i = true → listed.getD i false = true
  | 0, _, _, _, _, h => by cases h
  | f + 1, j, o, hj, hall, h => by
    rw [waitsB, hj] at h
    simp only at h
    rw [Array.any_eq_true] at h
    obtain ⟨k, hk, h3⟩ := h
    simp only [Bool.and_eq_true, Bool.or_eq_true, Nat.beq_eq] at h3
    have h4 := hall _ (Array.getElem_mem hk) h3.1
    rcases h3.2 with h5 | h5
    · rw [← h5]; exact h4
    · cases ho : ops[(o.after[k]).on]? with
      | none =>
        cases f with
        | zero => cases h5
        | succ f => rw [waitsB, ho] at h5; cases h5
      | some o2 => exact waits_done hD f _ o2 ho (fun e he hb => hD _ o2 ho h4 e he hb) h5
theorem Dn.set {listed : Array Bool} (hD : Dn ops listed) {j : Nat} (hj : j ∈ Region.ready .any ops listed) : Dn ops (listed.setIfInBounds j true) := by
  obtain ⟨hjun, oj, hoj, hall⟩ := mem_ready.1 hj
  have hjlt : j < listed.size := by
    rcases Nat.lt_or_ge j listed.size with h' | h'
    · exact h'
    · simp [Array.getElem?_eq_none h'] at hjun
  have up : ∀ k, listed.getD k false = true → (listed.setIfInBounds j true).getD k false = true := fun k hk => by
    by_cases e : j = k
    · subst e
      simp [Array.getElem?_setIfInBounds, hjlt]
    · rw [getD_set_ne false e]; exact hk
  intro k o ho hk e he hb
  by_cases ek : j = k
  · subst ek
    rw [hoj] at ho
    obtain rfl := Option.some.inj ho
    exact up _ (hall e he hb)
  · rw [getD_set_ne false ek] at hk
    exact up _ (hD k o ho hk e he hb)
theorem wpH_first {i : Nat} {oi : Oper} {v : Value} (hi : ops[i]? = some oi) (him : i < m) (hwait : waitB ops m = true) (hsel : ∀ (j : Nat) (o : Oper) cs b, ops[j]? = some o → o.op ≠ .select cs b) :
    ∀ (fuel : Nat) (listed : Array Bool) (a : Act),
      Dn ops listed → (∀ j oj, ops[j]? = some oj → j ≠ i → listed.getD j true = false → (∀ e ∈ oj.after, Region.binds .any e = true → e.on ≠ i) → oi.apart ops oj = true) →
      i ∈ Region.ready .any ops listed → YieldsIn P ops C oi v a →
      wpH P ops C Q m fuel (listed.setIfInBounds i true) (a.put oi.dst v) → wpH P ops C Q m (fuel + 1) listed a := by
  intro fuel
  induction fuel with
  | zero =>
    intro listed a hD _ hr hy H
    have hT := allB_no him (mem_ready.1 hr).1
    refine ⟨fun h => (by rw [hT] at h; cases h), fun _ => ⟨fun h => (by rw [h] at hr; cases hr), fun j hj => ?_⟩⟩
    by_cases hji : j = i
    · subst hji; exact hy.qOp hi H
    · exfalso
      obtain ⟨hjun, oj, hoj, hall⟩ := mem_ready.1 hj
      have hjm : j < m := by
        rcases Nat.lt_or_ge j m with h | h
        · exact h
        · have h1 := waits_done hD _ j oj hoj hall (waitB_spec hwait hoj h him)
          rw [getD_ft (mem_ready.1 hr).1] at h1
          cases h1
      have := allB_no hjm (by rw [getD_set_ne true (Ne.symm hji)]; exact hjun : (listed.setIfInBounds i true).getD j true = false)
      rw [H.1] at this
      cases this
  | succ fuel ih =>
    intro listed a hD hfree hr hy H
    have hT := allB_no him (mem_ready.1 hr).1
    refine ⟨fun h => (by rw [hT] at h; cases h), fun _ => ⟨fun h => (by rw [h] at hr; cases hr), fun j hj => ?_⟩⟩
    by_cases hji : j = i
    · subst hji; exact hy.qOp hi H
    · obtain ⟨hjun, oj, hoj, hall⟩ := mem_ready.1 hj
      have hnot : ∀ e ∈ oj.after, Region.binds .any e = true → e.on ≠ i := fun e he hb heq => by
        have h1 := hall e he hb
        have h0 := (mem_ready.1 hr).1
        rw [heq] at h1
        rcases Nat.lt_or_ge i listed.size with h' | h'
        · simp [h'] at h0 h1; rw [h0] at h1; cases h1
        · simp [Array.getElem?_eq_none h'] at h1
      have hjm : j < m := by
        rcases Nat.lt_or_ge j m with h | h
        · exact h
        · have h1 := waits_done hD _ j oj hoj hall (waitB_spec hwait hoj h him)
          rw [getD_ft (mem_ready.1 hr).1] at h1
          cases h1
      have hT' := allB_no hjm (by rw [getD_set_ne true (Ne.symm hji)]; exact hjun : (listed.setIfInBounds i true).getD j true = false)
      have h1 := (H.2 hT').2 j (ready_mono hj hji)
      have h2 := qOp_put hoj (hfree j oj hoj hji hjun hnot) (fun cs b => hsel i oi cs b hi) (fun cs b => hsel j oj cs b hoj) hy h1
      have hfree' : ∀ k ok, ops[k]? = some ok → k ≠ i → (listed.setIfInBounds j true).getD k true = false →
          (∀ e ∈ ok.after, Region.binds .any e = true → e.on ≠ i) → oi.apart ops ok = true := fun k ok hk hki hun hno => by
        refine hfree k ok hk hki ?_ hno
        by_cases hjk : j = k
        · subst hjk; exact hjun
        · rw [getD_set_ne true hjk] at hun; exact hun
      refine qOp_mono (fun a' h3 => ih (listed.setIfInBounds j true) a' (hD.set hj) hfree' (ready_mono hr (Ne.symm hji)) h3.1 ?_) h2
      rw [Array.setIfInBounds_comm _ _ hji]
      exact h3.2
theorem getD_rep (n j : Nat) : (Array.replicate n false).getD j false = false := by
  rw [Array.getD_eq_getD_getElem?, Array.getElem?_replicate]
  split <;> rfl
def runL : Nat → Nat → Array Bool → Array Bool
  | 0, _, li => li
  | n + 1, k, li => runL n (k + 1) (li.setIfInBounds k true)
def preB (ops : Array Oper) : Nat → Nat → Array Bool → Bool
  | 0, _, _ => true
  | n + 1, k, li => (Region.ready .any ops li).contains k && Region.free .any ops li k && preB ops n (k + 1) (li.setIfInBounds k true)
def seqB (ops : Array Oper) : Nat → Nat → Array Bool → Bool
  | 0, _, li => (Region.ready .any ops li).isEmpty
  | n + 1, k, li => (Region.ready .any ops li == [k]) && seqB ops n (k + 1) (li.setIfInBounds k true)
theorem wpAny_seq : ∀ (l : List Oper) (k : Nat) (li : Array Bool) (a : Act) (w : World), (∀ j, l[j]? = ops[k + j]?) → seqB ops l.length k li = true → wpList P ops Q l a w → wpAny P .any ops Q l.length li a w
  | [], k, li, a, w, _, hB, h => ⟨by simpa [seqB] using hB, h⟩
  | o :: l, k, li, a, w, hl, hB, h => by
    simp only [List.length_cons, seqB, Bool.and_eq_true, beq_iff_eq] at hB
    have h0 : ops[k]? = some o := by simpa using (hl 0).symm
    refine ⟨fun h' => (by rw [hB.1] at h'; cases h'), fun i hi => ?_⟩
    rw [hB.1, List.mem_singleton] at hi
    subst hi
    have h2 : wpOp P ops Q i (wpList P ops Q l) a w := by unfold wpOp; simp only [h0]; exact h
    exact wpOp_mono (fun a' w' h3 => wpAny_seq l (i + 1) _ a' w' (fun j => by have := hl (j + 1); simpa [Nat.add_assoc, Nat.add_comm 1 j] using this) hB.2 h3) h2
theorem wpH_lex (hs : Region.noSelect ops = true) (hwait : waitB ops m = true) {K : Act → Prop} {f : Nat} : ∀ (l : List Oper) (k : Nat) (li : Array Bool) (a : Act), Dn ops li → k + l.length = m → (∀ j, j < l.length → l[j]? = ops[k + j]?) →
    preB ops l.length k li = true → allB m (runL l.length k li) = true → wpQuiet P ops C K l a → (∀ a, K a → ∀ w, C w → wpAny P .any ops Q f (runL l.length k li) a w) → wpH P ops C Q m (l.length + f) li a
  | [], k, li, a, _, _, _, _, hA, h, hK => by
    rw [List.length_nil, Nat.zero_add]
    exact wpH_all hA (hK a h)
  | o :: l, k, li, a, hD, hk, hl, hB, hA, h, hK => by
    have h0 : ops[k]? = some o := by simpa using (hl 0 (by simp)).symm
    simp only [List.length_cons, preB, Bool.and_eq_true] at hB
    obtain ⟨⟨hr, hf⟩, hB'⟩ := hB
    have hst : qOp P ops C k (wpQuiet P ops C K l) a := by unfold qOp; simp only [h0]; exact h
    obtain ⟨v, hy, hK'⟩ := yieldsIn_of_qOp h0 hst
    rw [List.length_cons, show l.length + 1 + f = (l.length + f) + 1 by omega]
    exact wpH_first h0 (by simp only [List.length_cons] at hk; omega) hwait (Region.noSelect_spec hs) _ li a hD (Region.free_spec h0 hf) (by simpa using hr) hy
      (wpH_lex hs hwait l (k + 1) _ _ (hD.set (by simpa using hr)) (by simp only [List.length_cons] at hk; omega) (fun j hj => by have := hl (j + 1) (by simp only [List.length_cons]; omega); simpa [Nat.add_assoc, Nat.add_comm 1 j] using this) hB' hA hK' hK)
def tailB (ops : Array Oper) (m t : Nat) : Bool := Region.noSelect ops && (waitB ops m && (preB ops m 0 (Array.replicate ops.size false) && (allB m (runL m 0 (Array.replicate ops.size false)) && (seqB ops t m (runL m 0 (Array.replicate ops.size false)) && Nat.beq (m + t) ops.size))))
theorem wp_region_tail {r : Option Nat} {id : Nat} {l0 l1 : List Oper} {a : Act} {w : World} (hm : P.follows .mixedOrders = true) (hB : tailB (l0 ++ l1).toArray l0.length l1.length = true) (hC : C { w with drawn := w.drawn + 1 })
    (h : wpQuiet P (l0 ++ l1).toArray C (fun a' => ∀ w', C w' → wpList P (l0 ++ l1).toArray Q l1 a' w') l0 a) : wpp r P (.region id (l0 ++ l1).toArray true) Q a w := by
  simp only [tailB, Bool.and_eq_true] at hB
  obtain ⟨h1, h2, h3, h4, h5, h6⟩ := hB
  refine wpp_region_any hm (wpAny_of_H (m := l0.length) _ _ _ _ hC ?_)
  have key := wpH_lex (Q := Q) (f := l1.length) h1 h2 l0 0 (Array.replicate (l0 ++ l1).toArray.size false) a (fun j o _ hj => by rw [getD_rep] at hj; cases hj) (by omega) (fun j hj => by simp [List.getElem?_append_left hj]) h3 h4 h (fun a' hK w' hw' => wpAny_seq l1 l0.length _ a' w' (fun j => by simp [List.getElem?_append_right]) h5 (hK w' hw'))
  have e : l0.length + l1.length = (l0 ++ l1).toArray.size := by simp
  exact (congrArg (fun s => wpH P (l0 ++ l1).toArray C Q l0.length s (Array.replicate (l0 ++ l1).toArray.size false) a) e).mp key
end
/-- does an operation make or write memory? -/
def memB (o : Oper) : Bool := match o.op with
  | .store .. => true
  | .alloc .. => true
  | .box .. => true
  | .buildSlice .. => true
  | .makeSlice .. => true
  | .makeMap .. => true
  | .mapUpdate .. => true
  | .call c => match c.callee with
    | .builtin .append => true
    | .builtin .delete => true
    | _ => false
  | _ => false
inductive Split : List Oper → List Oper → List Oper → Prop where
  | z {o : Oper} {r : List Oper} (h : memB o = true) : Split (o :: r) [] (o :: r)
  | s {o : Oper} {r x y : List Oper} (h : memB o = false) (k : Split r x y) : Split (o :: r) (o :: x) y
theorem Split.eq {l x y : List Oper} (h : Split l x y) : l = x ++ y := by
  induction h with
  | z h => rfl
  | s h k ih => rw [List.cons_append, ih]
section
variable {P : Program} {n : Nm} {l : Env} {C : World → Prop} {Q : Exit → Act → World → Prop}
theorem W.regq {id : Nat} {l0 x y : List Oper} (hs : Split l0 x y) (hm : P.follows .mixedOrders = true) (hB : tailB (x ++ y).toArray x.length y.length = true) (hC : ∀ w, C w → C { w with drawn := w.drawn + 1 })
    (h : QL P n l0.toArray C (fun a' => ∀ w', C w' → wpList P l0.toArray Q y a' w') x l) : W P n (.region id l0.toArray true) Q l C := ⟨fun a w hs' hc => by
  have := hs.eq
  subst this
  exact wp_region_tail (C := C) hm hB (hC w hc) (h.run a hs')⟩
/-- the first k operations are quiet -/
inductive SplitN : Nat → List Oper → List Oper → List Oper → Prop where
  | z {r : List Oper} : SplitN 0 r [] r
  | s {k : Nat} {o : Oper} {r x y : List Oper} (h : SplitN k r x y) : SplitN (k + 1) (o :: r) (o :: x) y
theorem SplitN.eq {k : Nat} {l x y : List Oper} (h : SplitN k l x y) : l = x ++ y := by
  induction h with
  | z => rfl
  | s h ih => rw [List.cons_append, ih]
theorem W.regn (k : Nat) {id : Nat} {l0 x y : List Oper} (hs : SplitN k l0 x y) (hm : P.follows .mixedOrders = true) (hB : tailB (x ++ y).toArray x.length y.length = true) (hC : ∀ w, C w → C { w with drawn := w.drawn + 1 })
    (h : QL P n l0.toArray C (fun a' => ∀ w', C w' → wpList P l0.toArray Q y a' w') x l) : W P n (.region id l0.toArray true) Q l C := ⟨fun a w hs' hc => by
  have := hs.eq
  subst this
  exact wp_region_tail (C := C) hm hB (hC w hc) (h.run a hs')⟩
/-- a drawn region whose operations write no memory -/
theorem W.regd0 {id : Nat} {l0 : List Oper} (hq : (l0.all fun o => !memB o) = true) (hm : P.follows .mixedOrders = true) (hB : Region.lexB .any l0.toArray = true) (hC : ∀ w, C w → C { w with drawn := w.drawn + 1 })
    (h : QL P n l0.toArray C (fun a' => ∀ w', C w' → Q .normal a' w') l0 l) : W P n (.region id l0.toArray true) Q l C := W.regd hm hB hC h
theorem QL.tail {ops : Array Oper} {y : List Oper} (h : OL P n ops Q y l C) : QL P n ops C (fun a' => ∀ w', C w' → wpList P ops Q y a' w') [] l := ⟨fun a hs w hc => h.run a w hs hc⟩
end
end Go.Eng

/- Slices over a block of the call's own that is changed in place: append within its room, clear; slices in two and three numbers; min; loads of several cells that the class tells. General. No condition. -/
namespace Go.Eng
open Go.RowKit
section
variable {P : Program} {n : Nm} {l : Env} {H : List Item} {S : List World} {C : World → Prop} {c : Bool} {d : Option Nat} {ty : TypeId} {pos : String} {af : Array Edge} {g : Option (Nat × Bool)}
variable {ops : Array Oper} {rest : List Oper} {Q : Exit → Act → World → Prop} {t : TypeId} {x y z u : Operand} {cx cy cz cu : Bool}
theorem slElem_both {e : TypeId} {sz : Nat} (hu : slElem P t = some (e, sz)) : P.underlying t = some (.slice e) ∧ sizeN P e = some sz := by
  unfold slElem at hu
  cases h1 : P.underlying t with
  | none => simp [h1] at hu
  | some d1 =>
    rw [h1] at hu
    cases d1 <;> simp only [reduceCtorEq] at hu
    rename_i e'
    cases h2 : sizeN P e' with
    | none => simp [h2] at hu
    | some k' =>
      rw [h2] at hu
      simp only [Option.some.injEq, Prod.mk.injEq] at hu
      obtain ⟨rfl, rfl⟩ := hu
      exact ⟨rfl, h2⟩
theorem elem_eq {e : TypeId} (h : P.underlying t = some (.slice e)) : P.elem t = e := by simp [Program.elem, h]
theorem Pev.load_clsA {q : Addr} {vs : List Value} {k : Nat} (hx : evl l x = some (cx, .pointer (some q))) (hcx : c = true → cx = true) (hs : aggN P t = some k) (hk : vs.length = k) (hv : c = true → ∀ w, C w → CellsAt w q vs) :
    Pev P n l C ⟨d, .load t x, ty, pos, af, g⟩ c (.agg vs.toArray) :=
  .load_of hx hcx fun h w hw => run_loadVar_agg (by rw [hk]; exact hs) (hv h w hw)
theorem Pev.slice_lh {e : TypeId} {sz len cp i j : Nat} {k k' : IntKind} {a b : Int} {q : Option Addr} (hx : evl l x = some (cx, .slice q len cp)) (hcx : c = true → cx = true) (hy : evl l y = some (cy, .int k a)) (hcy : c = true → cy = true)
    (hz : evl l z = some (cz, .int k' b)) (hcz : c = true → cz = true) (hu : slElem P t = some (e, sz)) (ha : a = (i : Int)) (hb : b = (j : Int)) (hr : c = true → i ≤ j ∧ j ≤ cp) :
    Pev P n l C ⟨d, .slice t x (some y) (some z) none, ty, pos, af, g⟩ c (.slice (cutq q cp i sz) (j - i) (cp - i)) :=
  .of_run fun h a w hs hw => by
    subst ha
    subst hb
    obtain ⟨h1, h2⟩ := hr h
    obtain ⟨hus, hsz⟩ := slElem_both hu
    simp only [execOp, hs.eval hx (hcx h), Option.map_some, Option.map_none, hs.eval hy (hcy h), hs.eval hz (hcz h), Instr.sliceAt, Instr.slice, Sem.run_bind, run_underlying hus, Result.andThen_ok, Instr.sliceBounds, Instr.sliceBound, asIntOf, Sem.run_pure, run_sizeN hsz]
    simp [h1, h2, cutq]
theorem Pev.slice_lhm {e : TypeId} {sz len cp i j m : Nat} {k k' k'' : IntKind} {a b e3 : Int} {q : Option Addr} (hx : evl l x = some (cx, .slice q len cp)) (hcx : c = true → cx = true) (hy : evl l y = some (cy, .int k a)) (hcy : c = true → cy = true)
    (hz : evl l z = some (cz, .int k' b)) (hcz : c = true → cz = true) (hm : evl l u = some (cu, .int k'' e3)) (hcm : c = true → cu = true) (hu : slElem P t = some (e, sz)) (ha : a = (i : Int)) (hb : b = (j : Int)) (hm3 : e3 = (m : Int)) (hr : c = true → i ≤ j ∧ j ≤ m ∧ m ≤ cp) :
    Pev P n l C ⟨d, .slice t x (some y) (some z) (some u), ty, pos, af, g⟩ c (.slice (cutq q m i sz) (j - i) (m - i)) :=
  .of_run fun h a w hs hw => by
    subst ha
    subst hb
    subst hm3
    obtain ⟨h1, h2, h3⟩ := hr h
    obtain ⟨hus, hsz⟩ := slElem_both hu
    simp only [execOp, hs.eval hx (hcx h), Option.map_some, Option.map_none, hs.eval hy (hcy h), hs.eval hz (hcz h), hs.eval hm (hcm h), Instr.sliceAt, Instr.slice, Sem.run_bind, run_underlying hus, Result.andThen_ok, Instr.sliceBounds, Instr.sliceBound, asIntOf, Sem.run_pure, run_sizeN hsz]
    simp [h1, h2, h3, cutq]
theorem Pev.min2 {k k' : IntKind} {a b : Int} {ats : Array TypeId} (hx : evl l x = some (cx, .int k a)) (hcx : c = true → cx = true) (hy : evl l y = some (cy, .int k' b)) (hcy : c = true → cy = true) :
    Pev P n l C ⟨d, .call { callee := .builtin .min, args := #[x, y], argTypes := ats }, ty, pos, af, g⟩ c (.int k (if b < a then b else a)) :=
  .of_run fun h ac w hs hw => by
    have hr := run_min_int2 (P := P) w ats ty k k' a b
    simp [execOp, resolve, invoke, builtin, hs.eval hx (hcx h), hs.eval hy (hcy h), hr]
theorem Pev.max2 {k k' : IntKind} {a b : Int} {ats : Array TypeId} (hx : evl l x = some (cx, .int k a)) (hcx : c = true → cx = true) (hy : evl l y = some (cy, .int k' b)) (hcy : c = true → cy = true) :
    Pev P n l C ⟨d, .call { callee := .builtin .max, args := #[x, y], argTypes := ats }, ty, pos, af, g⟩ c (.int k (if a < b then b else a)) :=
  .of_run fun h ac w hs hw => by
    have hr := run_max_int2 (P := P) w ats ty k k' a b
    simp [execOp, resolve, invoke, builtin, hs.eval hx (hcx h), hs.eval hy (hcy h), hr]
/-- an array's literal -/
theorem Pev.buildArr {parts : List (Nat × Operand)} {zv : Value} {cs cs' : List Value} {len k : Nat} (hz : zeroV P t = some zv) (hcs : CellsL zv cs) (hu : arrElem P t = some (len, k)) (hf : Fill l (fun i => some (i * k, k)) cs parts cs') (hc : c = true) :
    Pev P n l C ⟨d, .build t parts.toArray, ty, pos, af, g⟩ c (.agg cs'.toArray) :=
  .of_run fun h a w hs hw => by
    unfold arrElem at hu
    cases h1 : P.underlying t with
    | none => simp [h1] at hu
    | some d1 =>
      rw [h1] at hu
      cases d1 <;> simp only [reduceCtorEq] at hu
      rename_i len' e'
      cases h2 : sizeN P e' with
      | none => simp [h2] at hu
      | some k' =>
        rw [h2] at hu
        simp only [Option.some.injEq, Prod.mk.injEq] at hu
        obtain ⟨rfl, rfl⟩ := hu
        have hrun := hf.run hs
        have hparts : (parts.toArray.map fun p => (p.1, a.eval p.2)).toList = parts.map fun p => (p.1, a.eval p.2) := by simp
        simp only [execOp, Instr.build, Sem.run_bind, run_zeroV hz, Result.andThen_ok, run_underlying h1, run_sizeN h2, hcs.eq]
        rw [hparts, hrun]
        rfl
theorem oneL_zero {z : Value} {zs : List Value} (hz : CellsL z zs) (h1 : oneL zs = true) (m : Nat) : oneL (Builtin.zeroCells z.cells m).toList = true := by
  have key : ∀ (xs : List Value), (∀ v ∈ xs, v.oneCell' = true) → oneL xs = true := by
    intro xs
    induction xs with
    | nil => intro _; rfl
    | cons v r ih => intro h; rw [oneL, h v (.head _), ih (fun u hu => h u (.tail _ hu))]; rfl
  refine key _ fun v hv => ?_
  rw [hz.eq] at hv
  simp only [Builtin.zeroCells, Array.toList_map, List.mem_map] at hv
  obtain ⟨i, hi, rfl⟩ := hv
  simp only [Array.toList_range, List.mem_range, List.size_toArray] at hi
  have hpos : 0 < zs.length := by
    rcases Nat.eq_zero_or_pos zs.length with h0 | h0
    · rw [h0] at hi; omega
    · exact h0
  have hlt : i % zs.toArray.size < zs.length := by simpa using Nat.mod_lt i hpos
  rw [getElem!_pos zs.toArray _ (by simpa using hlt)]
  exact oneL_mem h1 _ (by simp)
theorem putL_take : ∀ (vs cs : List Value) (o : Nat), (putL cs o vs).take o = cs.take o
  | [], cs, o => rfl
  | v :: vs, cs, o => by
    rw [putL]
    have h := putL_take vs (cs.set o v) (o + 1)
    have h2 := congrArg (List.take o) h
    rw [List.take_take, List.take_take, Nat.min_eq_left (by omega)] at h2
    rw [h2, List.take_set_of_le (Nat.le_refl _)]
theorem set_same {α : Type} {H : List α} {p : Nat} {i : α} (h : H[p]? = some i) : H.set p i = H := by
  obtain ⟨hlt, rfl⟩ := List.getElem?_eq_some_iff.1 h
  exact List.set_getElem_self hlt
theorem putL_drop {vs cs : List Value} {o m : Nat} (hf : o + vs.length ≤ cs.length) (h : o + vs.length ≤ m) : (putL cs o vs).drop m = cs.drop m := by
  rw [putL_eq _ _ _ hf, List.drop_append, List.drop_append, List.drop_of_length_le (by simp; omega), List.drop_of_length_le (l := vs) (by simp; omega), List.drop_drop]
  simp only [List.nil_append, List.length_append, List.length_take]
  congr 1
  omega
theorem putL_take2 {vs cs : List Value} {o : Nat} (hf : o + vs.length ≤ cs.length) : (putL cs o vs).take (o + vs.length) = cs.take o ++ vs := by
  rw [putL_eq _ _ _ hf, List.take_append_of_le_length (by simp; omega), List.take_of_length_le (by simp; omega)]
/-- clear, at a part of a block: what stands ahead of it stays -/
theorem OL.clear {e : TypeId} {sz m cp b o p : Nat} {q : Option Addr} {zv : Value} {zs cs : List Value} {t' : TypeId} {F : Item → List Item} (hx : evl l x = some (true, .slice q m cp)) (hu : slElem P t = some (e, sz)) (hz : zeroV P e = some zv) (hzs : CellsL zv zs) (hz1 : oneL zs = true) (hzl : zs.length = sz)
    (hH : Hole p H (blk b t' cs) F) (hq : 0 < m → q = some ⟨b, o, none⟩ ∧ o + m * sz ≤ cs.length)
    (k : ∀ cs' : List Value, cs'.length = cs.length → cs'.take o = cs.take o → OL P n ops Q rest l (Cls (F (blk b t' cs')) S)) :
    OL P n ops Q (⟨none, .call { callee := .builtin .clear, args := #[x], argTypes := #[t] }, ty, pos, af, none⟩ :: rest) l (Cls H S) := by
  obtain ⟨hp, hF⟩ := hH.eq
  obtain ⟨hus, hsz⟩ := slElem_both hu
  rcases Nat.eq_zero_or_pos m with rfl | hm
  · have k0 := k cs rfl rfl
    rw [hF, set_same hp] at k0
    refine ⟨fun a w hs hc => ?_⟩
    refine wpList_plain rfl fun K hK => ?_
    show Oper.upon P _ a K Q ((execOp a.eval _).run P w)
    have hr : (Builtin.clear_ #[t] ty #[.slice q 0 cp]).run P w = .ok (.tuple #[]) w := by
      cases q <;> simp [Builtin.clear_, run_underlying hus]
    simp only [execOp, resolve, invoke, builtin, Sem.run_bind, Sem.run_pure, Result.andThen_ok, List.map_toArray, List.map_cons, List.map_nil, hs.eval hx rfl, hr]
    exact hK _ _ (k0.run a w hs hc)
  · obtain ⟨rfl, hfit⟩ := hq hm
    have hzc : (Builtin.zeroCells zv.cells m).size = m * sz := by rw [size_zeroCells, hzs.eq, List.size_toArray, hzl]
    have k0 := k (putL cs o (Builtin.zeroCells zv.cells m).toList) (putL_length' _ _ _) (putL_take _ _ _)
    rw [hF] at k0
    refine ⟨fun a w hs hc => ?_⟩
    refine wpList_plain rfl fun K hK => ?_
    show Oper.upon P _ a K Q ((execOp a.eval _).run P w)
    obtain ⟨w', hr, hh, hkp⟩ := run_storeCells_blk (P := P) (o := o) (Builtin.zeroCells zv.cells m).toList 0 cs w (hc.item (List.mem_of_getElem? hp)) (by simp [hzc]; omega) (oneL_zero hzs hz1 m)
    have hr2 : (Builtin.clear_ #[t] ty #[.slice (some ⟨b, o, none⟩) m cp]).run P w = .ok (.tuple #[]) w' := by
      cases m with
      | zero => omega
      | succ m =>
        simp only [Builtin.clear_, List.getElem?_toArray, List.getElem?_cons_zero, Sem.run_bind, run_underlying hus, Result.andThen_ok, run_zeroV hz, hr, Sem.run_pure]
    simp only [execOp, resolve, invoke, builtin, Sem.run_bind, Sem.run_pure, Result.andThen_ok, List.map_toArray, List.map_cons, List.map_nil, hs.eval hx rfl, hr2]
    refine hK _ _ (k0.run a w' hs (hc.turn p hp (j := blk b t' (putL cs o (Builtin.zeroCells zv.cells m).toList)) hkp hh (fun q hq => ?_) (fun q hq => hq)))
    have hq' : q = b := hq
    subst hq'
    exact ⟨.inl rfl, Nat.lt_of_lt_of_le (hc.lt _ (List.mem_of_getElem? hp) q rfl) hkp.size⟩
/-- append within the room of a block of the call's own; the source may lie in that block -/
theorem OL.appendIn {e : TypeId} {dd sz b sLen sCap m cp p : Nat} {ad : Addr} {cs news : List Value} {F : Item → List Item} (hx : evl l x = some (true, .slice (some ⟨b, 0, none⟩) sLen sCap)) (hy : evl l y = some (true, .slice (some ad) m cp)) (hn : Nat.ble (dd + 1) n.n = true) (hu : slElem P t = some (e, sz))
    (hH : Hole p H (blk b e cs) F) (hsrc : ∀ w, Cls H S w → CellsAt w ad news) (hl : news.length = m * sz) (h1 : oneL news = true) (hroom : sLen + m ≤ sCap) (hfit : sLen * sz + news.length ≤ cs.length)
    (k : OL P n ops Q rest ((dd, true, .slice (some ⟨b, 0, none⟩) (sLen + m) sCap) :: l) (Cls (F (blk b e (cs.take (sLen * sz) ++ news ++ cs.drop (sLen * sz + news.length)))) S)) :
    OL P n ops Q (⟨some dd, .call { callee := .builtin .append, args := #[x, y], argTypes := #[t, t] }, ty, pos, af, none⟩ :: rest) l (Cls H S) := by
  obtain ⟨hp, hF⟩ := hH.eq
  rw [hF] at k
  obtain ⟨hus, hsz⟩ := slElem_both hu
  obtain ⟨i, hi, his⟩ := sizeN_info hsz
  have hn' := Nat.le_of_ble_eq_true hn
  refine ⟨fun a w hs hc => ?_⟩
  refine wpList_plain rfl fun K hK => ?_
  show Oper.upon P _ a K Q ((execOp a.eval _).run P w)
  have hg : w.heap[b]? = some (.cells cs.toArray e (0, 0)) := hc.item (List.mem_of_getElem? hp)
  have hr := run_append_room (P := P) w t ty e i hus hi b sLen sCap cs.toArray hg ad m cp news (by rw [his]; exact hl) (hsrc w hc) (oneL_mem h1) hroom (by rw [his]; simpa using hfit)
  simp only [execOp, resolve, invoke, builtin, Sem.run_bind, Sem.run_pure, Result.andThen_ok, List.map_toArray, List.map_cons, List.map_nil, hs.eval hx rfl, hs.eval hy rfl, hr]
  rw [his]
  refine hK _ _ (k.run _ _ (hs.put hn' true _) ?_)
  refine hc.turn p hp (j := blk b e (cs.take (sLen * sz) ++ news ++ cs.drop (sLen * sz + news.length))) ⟨rfl, rfl, rfl, by simp [World.setRow], fun k hk hne => setRow_other w b k _ (fun e => hne e)⟩ ?_ (fun q hq => ?_) (fun q hq => hq)
  · exact setRow_heap w b cs.toArray _ e _ hg
  · have hq' : q = b := hq
    subst hq'
    exact ⟨.inl rfl, by
      have := hc.lt _ (List.mem_of_getElem? hp) q rfl
      simpa [World.setRow] using this⟩
theorem Ext_keep {w w0 w' : World} {b : Nat} (h : Ext w w0) (hk : Keep (fun k => k = b) w0 w') (hb : w.heap.size ≤ b) : Ext w w' :=
  ⟨hk.os.trans h.os, hk.tape.trans h.tape, hk.output.trans h.output, Nat.le_trans h.size hk.size, fun k hk' _ => (hk.block k (Nat.lt_of_lt_of_le hk' h.size) (fun e => by subst e; omega)).trans (h.block k hk' id)⟩
/-- append to a new empty slice: a copy -/
theorem OL.appendNew {e : TypeId} {dd sz bb b m cp : Nat} {ad : Addr} {news : List Value} (hx : evl l x = some (true, .slice (some ⟨b, 0, none⟩) 0 0)) (hy : evl l y = some (true, .slice (some ad) m cp)) (hn : Nat.ble (dd + 1) n.n = true) (hu : rowElem P t = some (e, sz, bb))
    (hb : blk b e [] ∈ H) (hsrc : ∀ w, Cls H S w → CellsAt w ad news) (hl : news.length = m * sz) (h1 : oneL news = true) (hlim : m ≤ maxLen ∧ m * bb ≤ 140737488355328)
    (k : ∀ (q' : Option Addr) (cap' : Nat), OL P n ops Q rest ((dd, true, .slice q' m cap') :: l) (fun w' => ∃ w0, Cls H S w0 ∧ Keep (fun k => k = b) w0 w' ∧ w'.ownsRow b e sz (.slice q' m cap') m news)) :
    OL P n ops Q (⟨some dd, .call { callee := .builtin .append, args := #[x, y], argTypes := #[t, t] }, ty, pos, af, none⟩ :: rest) l (Cls H S) := by
  refine OL.newT (α := Option Addr × Nat) (C' := fun r w' => ∃ w0, Cls H S w0 ∧ Keep (fun k => k = b) w0 w' ∧ w'.ownsRow b e sz (.slice r.1 m r.2) m news) rfl rfl hn (fun r => .slice r.1 m r.2) (fun a w hs' hc => ?_) (fun r => k r.1 r.2)
  obtain ⟨i, z, g1, g2, g3, g4, g5, g6, g7⟩ := rowElem_spec hu
  have hblk := hc.item hb
  have hbl := blk_lt hblk
  have hown : w.ownsRow b e sz (.slice (some ⟨b, 0, none⟩) 0 0) 0 [] := ⟨by simp, .inr ⟨b, 0, #[], rfl, Nat.le_refl _, hblk, Nat.le_refl _, by simp [maxLen], by simp, by simp⟩⟩
  obtain ⟨v', w', hr, h2, h3, h4, h5⟩ := run_append_own_at (P := P) (w := w) b t ty e i z sz bb g1 g2 g3 g4 g5 g6 g7 _ 0 [] hown ad m cp news hl (hsrc w hc) (oneL_mem h1) (by rw [Nat.zero_add]; exact hlim.1) (by rw [Nat.zero_add]; exact hlim.2) (by omega)
  rw [Nat.zero_add, List.nil_append] at h2
  have hv : ∃ q' cap', v' = .slice q' m cap' := by
    rcases h2.2 with ⟨rfl, rfl⟩ | ⟨g', cap', cur, rfl, _⟩
    · exact ⟨none, 0, rfl⟩
    · exact ⟨_, _, rfl⟩
  obtain ⟨q', cap', rfl⟩ := hv
  refine ⟨(q', cap'), w', ?_, w, hc, ⟨h3.os, h3.tape, h3.output, h3.size, fun k hk hne => h3.block k hk (fun e => hne (by simpa [Value.ownBlock] using e))⟩, h2⟩
  simp only [execOp, resolve, invoke, builtin, Sem.run_bind, Sem.run_pure, Result.andThen_ok, List.map_toArray, List.map_cons, List.map_nil, hs'.eval hx rfl, hs'.eval hy rfl, hr]
end
end Go.Eng

/- A region that draws its order and whose operations write memory beside one another: an invariant over the set of operations that are done. General. No condition. -/
namespace Go.Eng
open Go.RowKit
/-- as Sub, where an entry may also tell what its slot held before -/
inductive SubO (l : Env) (n : Nm) (old : Nat → Value) : Env → Prop where
  | nil : SubO l n old []
  | cons {t : Nat} {c : Bool} {v : Value} {l' : Env} (h : look l t = some (c, v)) (r : SubO l n old l') : SubO l n old ((t, c, v) :: l')
  | old {t : Nat} {l' : Env} (h : Nat.ble (t + 1) n.n = true) (r : SubO l n old l') : SubO l n old ((t, true, old t) :: l')
theorem Sees.subO {n : Nm} {l l' : Env} {a : Act} {old : Nat → Value} (h : Sees n l a) (ho : ∀ t, t < n.n → a.tmps[t]? = some (old t)) (hs : SubO l n old l') : Sees n l' a := by
  refine ⟨h.df, h.sz, ?_⟩
  induction hs with
  | nil => intro t c v ht; cases ht
  | @cons t0 c0 v0 l0 h0 _ ih =>
    intro t c v ht
    simp only [Eng.look] at ht
    by_cases e : t0 = t
    · subst e
      rw [Nat.beq_refl, cond_true] at ht
      exact h.at_ t0 c v (by rw [h0]; exact ht)
    · rw [show Nat.beq t0 t = false from by rw [Bool.eq_false_iff]; intro hb; exact e (Nat.eq_of_beq_eq_true hb), cond_false] at ht
      exact ih t c v ht
  | @old t0 l0 h0 _ ih =>
    intro t c v ht
    simp only [Eng.look] at ht
    by_cases e : t0 = t
    · subst e
      rw [Nat.beq_refl, cond_true] at ht
      simp only [Option.some.injEq, Prod.mk.injEq] at ht
      obtain ⟨rfl, rfl⟩ := ht
      exact ho t0 (Nat.le_of_ble_eq_true h0)
    · rw [show Nat.beq t0 t = false from by rw [Bool.eq_false_iff]; intro hb; exact e (Nat.eq_of_beq_eq_true hb), cond_false] at ht
      exact ih t c v ht
def upd (e : Nat → Bool) (i : Nat) : Nat → Bool := fun j => Nat.beq j i || e j
/-- how many of the first n are not done -/
def cnt (e : Nat → Bool) : Nat → Nat
  | 0 => 0
  | n + 1 => cnt e n + (if e n then 0 else 1)
theorem upd_ne {e : Nat → Bool} {i j : Nat} (h : j ≠ i) : upd e i j = e j := by
  have : Nat.beq j i = false := by
    rw [Bool.eq_false_iff]; intro hb; exact h (Nat.eq_of_beq_eq_true hb)
  simp [upd, this]
theorem upd_eq {e : Nat → Bool} {i : Nat} : upd e i i = true := by simp [upd, Nat.beq_refl]
theorem cnt_upd {e : Nat → Bool} {i : Nat} (h : e i = false) : ∀ n, cnt (upd e i) n = if i < n then cnt e n - 1 else cnt e n
  | 0 => by simp [cnt]
  | n + 1 => by
    have ih := cnt_upd h n
    have hpos : ∀ n, i < n → 1 ≤ cnt e n := by
      intro n
      induction n with
      | zero => intro h; omega
      | succ n ih =>
        intro hn
        rw [cnt]
        by_cases hin : i = n
        · subst hin; rw [h]; simp
        · have := ih (by omega); omega
    rw [cnt, cnt, ih]
    by_cases hin : i = n
    · subst hin
      rw [upd_eq, h]; simp
    · rw [upd_ne (Ne.symm hin)]
      by_cases hl : i < n
      · have := hpos n hl
        have h3 : i < n + 1 := by omega
        rw [if_pos hl, if_pos h3]; omega
      · have h3 : ¬ i < n + 1 := by omega
        rw [if_neg hl, if_neg h3]
theorem cnt_zero {e : Nat → Bool} : ∀ {n}, cnt e n = 0 → ∀ i, i < n → e i = true
  | 0, _, i, hi => by omega
  | n + 1, h, i, hi => by
    rw [cnt] at h
    by_cases hin : i = n
    · subst hin
      cases he : e i
      · rw [he] at h; simp at h
      · rfl
    · exact cnt_zero (n := n) (by omega) i (by omega)
theorem cnt_pos {e : Nat → Bool} : ∀ {n}, (∀ i, i < n → e i = true) → cnt e n = 0
  | 0, _ => rfl
  | n + 1, h => by rw [cnt, cnt_pos (fun i hi => h i (by omega)), h n (by omega)]; rfl
section
variable {P : Program} {ops : Array Oper} {Q : Exit → Act → World → Prop}
/-- every operation waits for earlier ones alone -/
def backB (ops : Array Oper) : Bool := (List.range ops.size).all fun j => match ops[j]? with
  | some o => o.after.all fun e => !Region.binds .any e || Nat.blt e.on j
  | none => true
theorem backB_spec (h : backB ops = true) {j : Nat} {o : Oper} (hj : ops[j]? = some o) {e : Edge} (he : e ∈ o.after) (hbd : Region.binds .any e = true) : e.on < j := by
  have h1 := List.all_eq_true.1 h j (List.mem_range.2 (Array.getElem?_eq_some_iff.1 hj).1)
  simp only [hj] at h1
  have h2 := Array.all_eq_true_iff_forall_mem.1 h1 e he
  rw [hbd, Bool.not_true, Bool.false_or] at h2
  exact Nat.le_of_ble_eq_true h2
theorem ready_some (hb : backB ops = true) {li : Array Bool} {e : Nat → Bool} (hl : ∀ i, i < ops.size → e i = li.getD i false) (hs : li.size = ops.size) {k : Nat} (hk : k < ops.size) (hk' : e k = false) : Region.ready .any ops li ≠ [] := by
  -- the least one that is not done is ready
  obtain ⟨i, hi, hmin⟩ : ∃ i, (i < ops.size ∧ e i = false) ∧ ∀ j, j < i → ¬ (j < ops.size ∧ e j = false) := by
    induction k using Nat.strongRecOn with
    | _ k ih =>
      by_cases hex : ∃ j, j < k ∧ (j < ops.size ∧ e j = false)
      · obtain ⟨j, hj, h1, h2⟩ := hex
        exact ih j hj h1 h2
      · exact ⟨k, ⟨hk, hk'⟩, fun j hj h => hex ⟨j, hj, h⟩⟩
  have hmem : i ∈ Region.ready .any ops li := by
    rw [mem_ready]
    refine ⟨?_, ops[i], Array.getElem?_eq_getElem hi.1, fun d hd hbd => ?_⟩
    · have := hl i hi.1
      rw [hi.2] at this
      have hlt : i < li.size := by omega
      simp [hlt] at this ⊢
      first | exact this | exact this.symm
    · have h1 := backB_spec hb (Array.getElem?_eq_getElem hi.1) hd hbd
      have h2 : e d.on = true := by
        cases hd' : e d.on
        · exact absurd ⟨by omega, hd'⟩ (hmin d.on h1)
        · rfl
      rw [← hl d.on (by omega)]; exact h2
  intro h0
  rw [h0] at hmem
  cases hmem
theorem wpAny_inv (hb : backB ops = true) (I : (Nat → Bool) → Act → World → Prop)
    (hstep : ∀ e i o a w, I e a w → ops[i]? = some o → e i = false → (∀ d ∈ o.after, Region.binds .any d = true → e d.on = true) → wpOp P ops Q i (I (upd e i)) a w)
    (hend : ∀ e a w, I e a w → (∀ i, i < ops.size → e i = true) → Q .normal a w) :
    ∀ (f : Nat) (li : Array Bool) (e : Nat → Bool) (a : Act) (w : World), (∀ i, i < ops.size → e i = li.getD i false) → li.size = ops.size → cnt e ops.size = f → I e a w → wpAny P .any ops Q f li a w
  | 0, li, e, a, w, hl, hs, hc, hI => by
    have hall := cnt_zero hc
    refine ⟨?_, hend e a w hI hall⟩
    rw [List.eq_nil_iff_forall_not_mem]
    intro i hi
    obtain ⟨h1, o, ho, _⟩ := mem_ready.1 hi
    have hlt := (Array.getElem?_eq_some_iff.1 ho).1
    have h2 := hl i hlt
    rw [hall i hlt] at h2
    have hlt' : i < li.size := by omega
    simp [hlt'] at h1 h2
    rw [h1] at h2
    cases h2
  | f + 1, li, e, a, w, hl, hs, hc, hI => by
    refine ⟨fun h0 => ?_, fun i hi => ?_⟩
    · exfalso
      have : ∃ k, k < ops.size ∧ e k = false := by
        refine Classical.byContradiction fun hn => ?_
        have := cnt_pos (e := e) (n := ops.size) (fun i hi => by
          cases he : e i
          · exact absurd ⟨i, hi, he⟩ hn
          · rfl)
        omega
      obtain ⟨k, hk, hk'⟩ := this
      exact ready_some hb hl hs hk hk' h0
    · obtain ⟨h1, o, ho, hall⟩ := mem_ready.1 hi
      have hlt := (Array.getElem?_eq_some_iff.1 ho).1
      have hlt' : i < li.size := by omega
      have hei : e i = false := by
        rw [hl i hlt]
        simp [hlt'] at h1 ⊢
        exact h1
      refine wpOp_mono (fun a' w' hI' => wpAny_inv hb I hstep hend f (li.setIfInBounds i true) (upd e i) a' w' (fun j hj => ?_) (by simp [hs]) ?_ hI') (hstep e i o a w hI ho hei (fun d hd hb' => ?_))
      · by_cases hji : j = i
        · subst hji; rw [upd_eq]; simp [hlt']
        · rw [upd_ne hji, getD_set_ne false (Ne.symm hji)]; exact hl j hj
      · rw [cnt_upd hei, if_pos hlt]; omega
      · have h2 := hall d hd hb'
        rw [← hl d.on (Nat.lt_trans (backB_spec hb ho hd hb') hlt)] at h2
        exact h2
end
section
variable {P : Program} {n : Nm} {l : Env} {C : World → Prop} {Q : Exit → Act → World → Prop} {S : List World}
/-- what one operation of the region is to leave -/
def Beside (n : Nm) (S : List World) {X : Type} (E : X → (Nat → Bool) → Env) (H : X → (Nat → Bool) → List Item) (e : Nat → Bool) (Q : Exit → Act → World → Prop) : Exit → Act → World → Prop := fun ex a w => match ex with
  | .normal => ∃ x, Sees n (E x e) a ∧ Cls (H x e) S w
  | ex => Q ex a w
/-- what is done is done with all that it waits for -/
def Closed (l0 : List Oper) (e : Nat → Bool) : Prop := ∀ j o, l0[j]? = some o → e j = true → ∀ d ∈ o.after, Region.binds .any d = true → e d.on = true
theorem upd_mono {e : Nat → Bool} {i j : Nat} (h : e j = true) : upd e i j = true := by simp [Eng.upd, h]
theorem Closed.upd {l0 : List Oper} {e : Nat → Bool} (h : Closed l0 e) {i : Nat} {o : Oper} (ho : l0[i]? = some o) (hd : ∀ d ∈ o.after, Region.binds .any d = true → e d.on = true) : Closed l0 (Eng.upd e i) := fun j o' ho' hj d hd' hb => by
  by_cases hji : j = i
  · subst hji
    rw [ho] at ho'
    obtain rfl := Option.some.inj ho'
    exact upd_mono (hd d hd' hb)
  · rw [upd_ne hji] at hj
    exact upd_mono (h j o' ho' hj d hd' hb)
/-- what waits for an operation that is not done is not done -/
theorem Closed.not {l0 : List Oper} {e : Nat → Bool} (h : Closed l0 e) {i j : Nat} {o : Oper} (ho : l0[j]? = some o) (hi : e i = false) (hd : (o.after.any fun d => Nat.beq d.on i && Region.binds .any d) = true) : e j = false := by
  cases hj : e j
  · rfl
  · rw [Array.any_eq_true] at hd
    obtain ⟨k, hk, h3⟩ := hd
    simp only [Bool.and_eq_true, Nat.beq_eq] at h3
    have := h j o ho hj _ (Array.getElem_mem hk) h3.2
    rw [h3.1, hi] at this
    exact this.symm
theorem At.beside {X : Type} {E : X → (Nat → Bool) → Env} {H : X → (Nat → Bool) → List Item} {e : Nat → Bool} (x : X) (hs : Sub l (E x e)) (hc : ∀ w, C w → Cls (H x e) S w) : At n (Beside n S E H e Q) .normal l C :=
  ⟨fun a w s c => ⟨x, s.sub hs, hc w c⟩⟩
theorem upon_Q {o : Oper} {a : Act} {K : Act → World → Prop} {Q Q' : Exit → Act → World → Prop} (hp : ∀ e a w, e ≠ .normal → Q e a w → Q' e a w) {r : Result Next} (h : Oper.upon P o a K Q r) : Oper.upon P o a K Q' r := by
  have hlet : LetsOut Q → LetsOut Q' := fun ⟨a, w, hq⟩ => ⟨a, w, hp _ _ _ (by simp) hq⟩
  cases r with
  | ok n w' =>
    cases n <;> simp only [Oper.upon] at h ⊢ <;>
      first
        | exact h
        | exact Calls.mono h (fun e w'' he => by cases e <;> first | exact he | exact hp _ _ _ (by simp) he | exact hlet he)
  | halt x w' =>
    cases x <;> simp only [Oper.upon] at h ⊢ <;> first | exact h | exact hp _ _ _ (by simp) h
theorem wpOp_of_one {ops : Array Oper} {i : Nat} {o : Oper} {a : Act} {w : World} {X : Type} {E : X → (Nat → Bool) → Env} {H : X → (Nat → Bool) → List Item} {e : Nat → Bool} (ho : ops[i]? = some o)
    (h : wpList P ops (Beside n S E H e Q) [o] a w) : wpOp P ops Q i (fun a w => ∃ x, Sees n (E x e) a ∧ Cls (H x e) S w) a w := by
  have hp : ∀ ex a w, ex ≠ .normal → Beside n S E H e Q ex a w → Q ex a w := fun ex a w hne h => by
    cases ex <;> first | exact h | exact absurd rfl hne
  unfold wpOp
  simp only [ho]
  unfold wpList at h
  split
  · rename_i hw
    rw [if_pos hw] at h
    rcases h with h | ⟨h, a', w', hq⟩
    · refine .inl ?_
      unfold Oper.wp at h ⊢
      exact upon_Q hp h
    · exact .inr ⟨h, a', w', hp _ _ _ (by simp) hq⟩
  · rename_i hw
    rw [if_neg hw] at h
    exact h
theorem W.regany {id : Nat} {l0 : List Oper} {X : Type} (E : X → (Nat → Bool) → Env) (H : X → (Nat → Bool) → List Item) (x0 : (Nat → Value) → X) (hm : P.follows .mixedOrders = true) (hb : backB l0.toArray = true) (hC : ∀ w, C w → C { w with drawn := w.drawn + 1 })
    (h0 : ∀ old, SubO l n old (E (x0 old) (fun _ => false))) (hc0 : ∀ old w, C w → Cls (H (x0 old) (fun _ => false)) S w)
    (step : ∀ x e i o, l0[i]? = some o → e i = false → (∀ d ∈ o.after, Region.binds .any d = true → e d.on = true) → Closed l0 e → OL P n l0.toArray (Beside n S E H (upd e i) Q) [o] (E x e) (Cls (H x e) S))
    (fin : ∀ x e, (∀ i, i < l0.length → e i = true) → At n Q .normal (E x e) (Cls (H x e) S)) : W P n (.region id l0.toArray true) Q l C := ⟨fun a w hs hc => by
  refine wpp_region_any hm (wpAny_inv hb (fun e a w => Closed l0 e ∧ ∃ x, Sees n (E x e) a ∧ Cls (H x e) S w) ?_ ?_ _ _ (fun _ => false) a _ ?_ (by simp) ?_ ⟨fun j o _ h => (by cases h), x0 (fun t => (a.tmps[t]?).getD undef), hs.subO (fun t ht => (by rw [Array.getElem?_eq_getElem (by rw [hs.sz]; exact ht)]; rfl)) (h0 _), hc0 _ _ (hC w hc)⟩)
  · rintro e i o a w ⟨hcl, x, hs, hc⟩ ho hei hd
    have ho' : l0[i]? = some o := by simpa using ho
    exact wpOp_mono (fun a w h => ⟨hcl.upd ho' hd, h⟩) (wpOp_of_one (by simpa using ho) ((step x e i o ho' hei hd hcl).run a w hs hc))
  · rintro e a w ⟨_, x, hs, hc⟩ hall
    exact (fin x e (fun i hi => hall i (by simpa using hi))).run a w hs hc
  · intro i hi
    simp at hi
    simp [hi]
  · have : ∀ n, cnt (fun _ => false) n = n := by
      intro n; induction n with
      | zero => rfl
      | succ n ih => rw [cnt, ih]; rfl
    rw [this]⟩
end
/-- an item that says nothing: a place for a block that is not there yet -/
def nothing : Item := ⟨fun _ => False, fun _ => True, fun _ _ _ _ => trivial⟩
theorem NotOwned.nothing {H : List Item} {k : Nat} (r : NotOwned H k) : NotOwned (Eng.nothing :: H) k := NotOwned.any (fun h => h) r
theorem NotOwned.bif {c : Bool} {i j : Item} {H : List Item} {k : Nat} (hi : NotOwned [i] k) (hj : NotOwned [j] k) (r : NotOwned H k) : NotOwned ((bif c then i else j) :: H) k := by
  refine NotOwned.any (fun h => ?_) r
  cases c
  · exact hj.not ⟨j, by simp, h⟩
  · exact hi.not ⟨i, by simp, h⟩
theorem Hole.parts {p : Nat} {H : List Item} {i : Item} {F : Item → List Item} (h : Hole p H i F) : ∃ H1 H2, H = H1 ++ i :: H2 ∧ ∀ j, F j = H1 ++ j :: H2 := by
  induction h with
  | z => exact ⟨[], _, rfl, fun j => rfl⟩
  | s h ih =>
    obtain ⟨H1, H2, h1, h2⟩ := ih
    exact ⟨_ :: H1, H2, by rw [h1]; rfl, fun j => by show _ :: _ = _; rw [h2 j]; rfl⟩
theorem Cls.fill {p : Nat} {H : List Item} {S : List World} {j : Item} {F : Item → List Item} {w : World} (hh : Hole p H nothing F) (h : Cls (j :: H) S w) : Cls (F j) S w := by
  obtain ⟨H1, H2, rfl, hF⟩ := hh.parts
  rw [hF]
  have hsub : ∀ i, i ∈ H1 ++ j :: H2 → i ∈ j :: (H1 ++ nothing :: H2) := fun i hi => by
    simp only [List.mem_append, List.mem_cons] at hi ⊢
    rcases hi with h | h | h
    · exact .inr (.inl h)
    · exact .inl h
    · exact .inr (.inr (.inr h))
  have hd := h.dj
  rw [List.pairwise_cons, List.pairwise_append, List.pairwise_cons] at hd
  obtain ⟨hj, h1, ⟨_, h2⟩, h12⟩ := hd
  refine ⟨fun i hi => h.holds i (hsub i hi), fun i hi => h.lt i (hsub i hi), ?_, fun s hs => (h.kp s hs).mono fun k _ ⟨i, hi, hk⟩ => ?_⟩
  · rw [List.pairwise_append, List.pairwise_cons]
    refine ⟨h1, ⟨fun b hb => hj b (by simp [hb]), h2⟩, fun a ha b hb => ?_⟩
    rcases List.mem_cons.1 hb with rfl | hb
    · exact fun k hk hk' => hj a (by simp [ha]) k hk' hk
    · exact h12 a ha b (by simp [hb])
  · simp only [List.mem_cons, List.mem_append] at hi
    rcases hi with rfl | h | rfl | h
    · exact ⟨_, by simp, hk⟩
    · exact ⟨i, by simp [h], hk⟩
    · exact hk.elim
    · exact ⟨i, by simp [h], hk⟩
theorem Cls.add_nothing {H : List Item} {S : List World} {w : World} (h : Cls H S w) : Cls (H ++ [nothing]) S w := by
  refine ⟨fun i hi => ?_, fun i hi => ?_, ?_, fun s hs => (h.kp s hs).mono fun k _ ⟨i, hi, hk⟩ => ⟨i, by simp [hi], hk⟩⟩
  · rcases List.mem_append.1 hi with h' | h'
    · exact h.holds i h'
    · rw [List.mem_singleton.1 h']; trivial
  · rcases List.mem_append.1 hi with h' | h'
    · exact h.lt i h'
    · rw [List.mem_singleton.1 h']; exact fun k hk => hk.elim
  · rw [List.pairwise_append]
    exact ⟨h.dj, List.pairwise_singleton _ _, fun a _ b hb k _ hk => by rw [List.mem_singleton.1 hb] at hk; exact hk⟩
end Go.Eng

/- More rules: what a class tells, calls of function values that change the class, a store into a grown row, forgetting ahead of an unknown rest. General. No condition. -/
namespace Go.Eng
open Go.RowKit
section
variable {P : Program} {n : Nm} {l : Env} {H : List Item} {S : List World} {C : World → Prop} {c : Bool} {d : Option Nat} {ty : TypeId} {pos : String} {af : Array Edge} {g : Option (Nat × Bool)}
variable {ops : Array Oper} {rest : List Oper} {Q : Exit → Act → World → Prop} {t : TypeId} {x y z : Operand} {cx cy cz : Bool}
theorem W.fact {code : Code} {φ : Prop} (h : ∀ w, C w → φ) (k : φ → W P n code Q l C) : W P n code Q l C := ⟨fun a w hs hc => (k (h w hc)).run a w hs hc⟩
theorem OL.fact {φ : Prop} (h : ∀ w, C w → φ) (k : φ → OL P n ops Q rest l C) : OL P n ops Q rest l C := ⟨fun a w hs hc => (k (h w hc)).run a w hs hc⟩
theorem At.fact {e : Exit} {φ : Prop} (h : ∀ w, C w → φ) (k : φ → At n Q e l C) : At n Q e l C := ⟨fun a w hs hc => (k (h w hc)).run a w hs hc⟩
theorem OL.sub {l' : Env} {C' : World → Prop} (hs : Sub l l') (hc : ∀ w, C w → C' w) (h : OL P n ops Q rest l' C') : OL P n ops Q rest l C := ⟨fun a w s c => h.run a w (s.sub hs) (hc w c)⟩
/-- a call of a function value whose result is one of several: told by u -/
theorem OL.callvE {α : Type} (V : α → Value) (Φ : α → Prop) (C' : α → World → Prop) {f : FuncId} {first cap : List Value} {args : List Operand} {vs : List Value} {ats : Array TypeId} {dd : Nat} (hx : evl l x = some (true, .func (.func f) first.toArray cap.toArray)) (hn : Nat.ble (dd + 1) n.n = true) (hf : callable P f = true) (ha : Args l true args vs)
    (h : ∀ w, C w → Calls P f (first ++ vs ++ cap).toArray w fun e w' => ∃ u, e = .returned (V u) ∧ Φ u ∧ C' u w')
    (k : ∀ u, Φ u → OL P n ops Q rest ((dd, true, V u) :: l) (C' u)) : OL P n ops Q (⟨some dd, .call { callee := .value x, args := args.toArray, argTypes := ats }, ty, pos, af, none⟩ :: rest) l C := by
  have hn' := Nat.le_of_ble_eq_true hn
  refine ⟨fun a w hs hc => ?_⟩
  refine wpList_plain rfl fun K hK => ?_
  show Oper.upon P _ a K Q ((execOp a.eval _).run P w)
  rw [run_callv hf (hs.eval hx rfl)]
  show Calls P f _ w _
  rw [List.map_toArray, ha.map hs rfl]
  have h2 := h w hc
  simp only [List.append_toArray] at h2 ⊢
  refine h2.mono fun e w' ⟨u, he, hu, hr⟩ => ?_
  subst he
  exact hK _ _ ((k u hu).run _ w' (hs.put hn' true (V u)) hr)
/-- where two ways meet: what both leave is told once -/
theorem W.joinc {code r : Code} (l' : Env) (C' : World → Prop) (h1 : W P n code (Exit.then (fun a w => Sees n l' a ∧ C' w) Q) l C) (h2 : W P n r Q l' C') : W P n code (Exit.then (wpp n.r P r Q) Q) l C :=
  ⟨fun a w hs hc => wpp_mono (h1.run a w hs hc) fun e a' w' hq => by
    cases e with
    | normal => exact h2.run a' w' hq.1 hq.2
    | _ => exact hq⟩
theorem At.joined {l' : Env} {C' : World → Prop} (hs : Sub l l') (hc : ∀ w, C w → C' w) : At n (Exit.then (fun a w => Sees n l' a ∧ C' w) Q) .normal l C := ⟨fun a w s c => ⟨s.sub hs, hc w c⟩⟩
theorem Thin.same : ∀ {H : List Item}, Thin S H H
  | [] => .nil
  | _ :: _ => .keep Thin.same
theorem row_some {w : World} {base m cap size : Nat} {O : Nat → Prop} {q : Option Addr} {e : TypeId} {xs : List Value} (h : (row base O q m cap e size xs).holds w) (hm : 0 < m) : ∃ g0, q = some ⟨g0, 0, none⟩ := by
  rcases h.2.2 with ⟨h3, h4⟩ | ⟨g, cap', cur, h3, _⟩
  · omega
  · simp only [Value.slice.injEq] at h3
    exact ⟨g, h3.1⟩
/-- a store of one cell into a grown row -/
theorem OL.storeR {g0 o p base m cap : Nat} {O : Nat → Prop} {e : TypeId} {xs : List Value} {v : Value} {F : Item → List Item} (hx : evl l x = some (true, .pointer (some ⟨g0, o, none⟩))) (hy : evl l y = some (true, v)) (hv : v.cells = #[v])
    (hs : sizeN P t = some 1) (h1 : oneL [v] = true) (hH : Hole p H (row base O (some ⟨g0, 0, none⟩) m cap e 1 xs) F) (hl : o < xs.length)
    (kk : OL P n ops Q rest l (Cls (F (row base O (some ⟨g0, 0, none⟩) m cap e 1 (xs.set o v))) S)) : OL P n ops Q (⟨none, .store t x y, ty, pos, af, none⟩ :: rest) l (Cls H S) := by
  obtain ⟨hp, hF⟩ := hH.eq
  rw [hF] at kk
  refine OL.store_ (C' := Cls (H.set p (row base O (some ⟨g0, 0, none⟩) m cap e 1 (xs.set o v))) S) rfl rfl (fun a w hs' hc => ?_) kk
  have hi := hc.item (List.mem_of_getElem? hp)
  obtain ⟨hO, hxl, hor⟩ := hi
  rcases hor with ⟨h3, _⟩ | ⟨gg, cap', cur, h3, hb, hg, h4, h5, h6, h7⟩
  · cases h3
  · simp only [Value.slice.injEq, Option.some.injEq, Addr.mk.injEq] at h3
    obtain ⟨⟨rfl, _⟩, _, rfl⟩ := h3
    have hcl : o < cur.toList.length := by
      rw [← h7, List.length_take] at hl
      omega
    obtain ⟨w', hr', hh, hkp⟩ := run_storeAt_blk (P := P) (o := o) (vs := [v]) (cs := cur.toList) (t' := e) (w := w) (b := g0) (by simpa using hg) hs hv rfl (show o + 1 ≤ cur.toList.length from hcl) h1
    refine ⟨w', ?_, hc.turn p hp (j := row base O (some ⟨g0, 0, none⟩) m cap e 1 (xs.set o v)) ⟨hkp.os, hkp.tape, hkp.output, hkp.size, fun k hk hn => hkp.block k hk (fun e2 => hn (by rw [show k = g0 from e2]; exact ⟨hb, hO _ rfl⟩))⟩ ?_ (fun q hq => ⟨.inl hq, Nat.lt_of_lt_of_le (hc.lt _ (List.mem_of_getElem? hp) q hq) hkp.size⟩) (fun q hq => hq)⟩
    · simp only [execOp, hs'.eval hx rfl, hs'.eval hy rfl, Sem.run_bind, hr', Result.andThen_ok]; rfl
    · refine ⟨hO, by rw [List.length_set]; exact hxl, .inr ⟨g0, cap, (cur.toList.set o v).toArray, rfl, hb, hh, h4, h5, by simpa using h6, ?_⟩⟩
      rw [← h7]
      simp only [List.take_set]
theorem OL.cls {C' : World → Prop} (hc : ∀ w, C w → C' w) (h : OL P n ops Q rest l C') : OL P n ops Q rest l C := ⟨fun a w s c => h.run a w s (hc w c)⟩
theorem W.cls {code : Code} {C' : World → Prop} (hc : ∀ w, C w → C' w) (h : W P n code Q l C') : W P n code Q l C := ⟨fun a w s c => h.run a w s (hc w c)⟩
theorem Cls.perm {H' : List Item} {w : World} (h : Cls H S w) (hp : H.Perm H') : Cls H' S w :=
  ⟨fun i hi => h.holds i (hp.mem_iff.2 hi), fun i hi => h.lt i (hp.mem_iff.2 hi), (hp.pairwise_iff (fun {i j} hij k hj hi => hij k hi hj)).1 h.dj, fun s hs => (h.kp s hs).mono fun k _ ⟨i, hi, hk⟩ => ⟨i, hp.mem_iff.1 hi, hk⟩⟩
theorem Cls.last {w : World} {i : Item} (h : Cls (i :: H) S w) : Cls (H ++ [i]) S w := h.perm (List.perm_append_comm (l₁ := [i]))
theorem Cls.back2 {w : World} {i j k : Item} (h : Cls (i :: j :: k :: H) S w) : Cls (j :: k :: i :: H) S w := h.perm (List.Perm.append_right H (List.perm_append_comm (l₁ := [i]) (l₂ := [j, k])))
theorem Cls.flip {w : World} {i j : Item} (h : Cls (i :: j :: H) S w) : Cls (j :: i :: H) S w := h.perm (List.Perm.swap _ _ _)
/-- a result that stands in a variable's own block -/
theorem At.finC {mm : Nat} {rr : Option Nat} {fn : Func} {R : Ending → World → Prop} {tt b k : Nat} {t' : TypeId} {cs : List Value} (hr : fn.results = #[.cell tt ty]) (ht : look l tt = some (true, .pointer (some ⟨b, 0, none⟩))) (hp : blk b t' cs ∈ H) (hs : aggN P ty = some k) (hk : cs.length = k)
    (h : ∀ w, Cls H S w → R (.returned (.agg cs.toArray)) w) : At ⟨mm, [], rr⟩ (bodyPost P fn R) .ret l (Cls H S) :=
  ⟨fun a w hs' hc => ⟨hs'.df, .agg cs.toArray, by
    have h1 := hs'.at_ tt true _ ht
    have h2 := run_loadVar_agg (P := P) (t := ty) (vs := cs) (a := ⟨b, 0, none⟩) (w := w) (by rw [hk]; exact hs) (fun j v hj => by rw [add_mid, Nat.zero_add, blk_cell (hc.item hp)]; exact hj)
    simp [results, hr, Array.getD_eq_getD_getElem?, h1, asAddr, h2], h w hc⟩⟩
/-- append to a grown row that is not empty: its base needs no look -/
theorem OL.appendP {F : Item → List Item} {e : TypeId} {dd sz bb p m cap cap2 o b m2 : Nat} {base : Nat} {O : Nat → Prop} {q : Option Addr} {xs cs news : List Value} {t' : TypeId}
    (hx : evl l x = some (true, .slice q m cap)) (hy : evl l y = some (true, .slice (some ⟨b, o, none⟩) m2 cap2)) (hn : Nat.ble (dd + 1) n.n = true)
    (hu : rowElem P t = some (e, sz, bb)) (hp' : Hole p H (row base O q m cap e sz xs) F) (hb : blk b t' cs ∈ H) (ht : Take (m2 * sz) (cs.drop o) news) (h1 : oneL news = true) (hm2 : Nat.ble 1 m2 = true)
    (hpos : 0 < m) (hlim : (m + m2) ≤ 9223372036854775807 ∧ (m + m2) * bb ≤ 140737488355328)
    (k : ∀ (O' : Nat → Prop) (g' cap' : Nat), OL P n ops Q rest ((dd, true, .slice (some ⟨g', 0, none⟩) (m + m2) cap') :: l) (Cls (F (row base O' (some ⟨g', 0, none⟩) (m + m2) cap' e sz (xs ++ news))) S)) :
    OL P n ops Q (⟨some dd, .call { callee := .builtin .append, args := #[x, y], argTypes := #[t, t] }, ty, pos, af, none⟩ :: rest) l (Cls H S) := by
  refine ⟨fun a w hs hc => ?_⟩
  have hi := hc.item (List.mem_of_getElem? hp'.eq.1)
  have hbw : base ≤ w.heap.size := by
    rcases hi.2.2 with ⟨_, h4⟩ | ⟨g, cap', cur, h3, hb', hg, _⟩
    · omega
    · have := (Array.getElem?_eq_some_iff.1 hg).1
      omega
  have key := OL.append (S := w :: S) (P := P) (n := n) (ops := ops) (Q := Q) (rest := rest) (ty := ty) (pos := pos) (af := af) hx hy hn hu hp' hb ht h1 hm2 ⟨w, .head _, hbw⟩ hlim (fun O' g' cap' => OL.cls (C' := Cls (F (row base O' (some ⟨g', 0, none⟩) (m + m2) cap' e sz (xs ++ news))) S) (fun w' hw' => hw'.forget (fun s hs => .tail _ hs)) (k O' g' cap'))
  exact key.run a w hs hc.note
theorem Cls.nothing_cons {w : World} (h : Cls H S w) : Cls (nothing :: H) S w :=
  h.add (Keep.refl _ w) _ trivial (fun k hk => hk.elim)
end
end Go.Eng

/- Grown rows of structs: their elements read in place, the last ones taken away. General. No condition. -/
namespace Go.Eng
open Go.RowKit
section
variable {P : Program} {n : Nm} {l : Env} {C : World → Prop} {Q : Exit → Act → World → Prop}
/-- where two ways meet in a state that is told by g -/
theorem W.joinx {G : Type} {code r : Code} (Φ : G → Prop) (lg : G → Env) (Cg : G → World → Prop) (h1 : W P n code (Exit.then (fun a w => ∃ g, Φ g ∧ Sees n (lg g) a ∧ Cg g w) Q) l C) (h2 : ∀ g, Φ g → W P n r Q (lg g) (Cg g)) : W P n code (Exit.then (wpp n.r P r Q) Q) l C :=
  ⟨fun a w hs hc => wpp_mono (h1.run a w hs hc) fun e a' w' hq => by
    cases e with
    | normal =>
      obtain ⟨g, hg, hs', hc'⟩ := hq
      exact (h2 g hg).run a' w' hs' hc'
    | _ => exact hq⟩
theorem At.joinedx {G : Type} {Φ : G → Prop} {lg : G → Env} {Cg : G → World → Prop} (g : G) (hg : Φ g) (hs : Sub l (lg g)) (hc : ∀ w, C w → Cg g w) : At n (Exit.then (fun a w => ∃ g, Φ g ∧ Sees n (lg g) a ∧ Cg g w) Q) .normal l C := ⟨fun a w s c => ⟨g, hg, s.sub hs, hc w c⟩⟩
end
theorem row_cap {w : World} {base m cap size : Nat} {O : Nat → Prop} {q : Option Addr} {e : TypeId} {xs : List Value} (h : (row base O q m cap e size xs).holds w) : m ≤ cap := by
  rcases h.2.2 with ⟨h3, h4⟩ | ⟨g, cap', cur, h3, _, _, hn, _⟩
  · omega
  · simp only [Value.slice.injEq] at h3
    omega
/-- the last elements of a grown row go -/
theorem Cls.rowPop {p : Nat} {H : List Eng.Item} {S : List World} {w : World} {base m cap size : Nat} {O : Nat → Prop} {q : Option Addr} {e : TypeId} {xs : List Value} {F : Eng.Item → List Eng.Item} (m' : Nat) (xs' : List Value) (hh : Hole p H (row base O q m cap e size xs) F) (hm : m' ≤ m) (hx : xs' = xs.take (m' * size)) (h : Cls H S w) : Cls (F (row base O q m' cap e size xs')) S w := by
  obtain ⟨h1, h2⟩ := hh.eq
  rw [h2]
  refine h.turn p h1 (Keep.refl _ _) ?_ (fun k hk => ⟨.inl hk, ?_⟩) (fun k hk => hk)
  · have hi := h.holds _ (List.mem_of_getElem? h1)
    obtain ⟨ha, hb, hc⟩ := hi
    refine ⟨ha, ?_, ?_⟩
    · rw [hx, List.length_take, hb]
      exact Nat.min_eq_left (Nat.mul_le_mul_right _ hm)
    · rcases hc with ⟨hv, hn⟩ | ⟨g, cap2, cur, hv, hg, hh2, hn, hc2, hs, ht⟩
      · simp only [Value.slice.injEq] at hv
        obtain ⟨rfl, _, rfl⟩ := hv
        exact .inl ⟨by rw [show m' = 0 by omega], by omega⟩
      · simp only [Value.slice.injEq] at hv
        obtain ⟨rfl, _, rfl⟩ := hv
        refine .inr ⟨g, _, cur, rfl, hg, hh2, by omega, hc2, hs, ?_⟩
        rw [hx, ← ht, List.take_take, Nat.min_eq_left (Nat.mul_le_mul_right _ hm)]
  · exact h.lt _ (List.mem_of_getElem? h1) k hk
theorem Cls.in3 {H : List Eng.Item} {S : List World} {w : World} {i a b c : Eng.Item} (h : Cls (i :: a :: b :: c :: H) S w) : Cls (a :: b :: c :: i :: H) S w := h.perm (List.Perm.append_right H (List.perm_append_comm (l₁ := [i]) (l₂ := [a, b, c])))
theorem Cls.out3 {H : List Eng.Item} {S : List World} {w : World} {i a b c : Eng.Item} (h : Cls (a :: b :: c :: i :: H) S w) : Cls (i :: a :: b :: c :: H) S w := h.perm (List.Perm.append_right H (List.perm_append_comm (l₁ := [a, b, c]) (l₂ := [i])))
theorem Cls.in4 {H : List Eng.Item} {S : List World} {w : World} {i a b c d : Eng.Item} (h : Cls (i :: a :: b :: c :: d :: H) S w) : Cls (a :: b :: c :: d :: i :: H) S w := h.perm (List.Perm.append_right H (List.perm_append_comm (l₁ := [i]) (l₂ := [a, b, c, d])))
theorem Cls.out4 {H : List Eng.Item} {S : List World} {w : World} {i a b c d : Eng.Item} (h : Cls (a :: b :: c :: d :: i :: H) S w) : Cls (i :: a :: b :: c :: d :: H) S w := h.perm (List.Perm.append_right H (List.perm_append_comm (l₁ := [a, b, c, d]) (l₂ := [i])))
/-- type and place of a field that is one cell -/
def fieldT (P : Program) (t : TypeId) (i : Nat) : Option (TypeId × Nat) := match P.underlying t with
  | some (.struct fs) => match fs[i]? with
    | some f => match lit f.offset with
      | some o => match scalB P f.type with
        | true => some (f.type, o)
        | false => none
      | none => none
    | none => none
  | _ => none
section
variable {P : Program} {n : Nm} {l : Env} {H : List Item} {S : List World} {C : World → Prop} {c : Bool} {d : Option Nat} {ty : TypeId} {pos : String} {af : Array Edge} {g : Option (Nat × Bool)} {t : TypeId} {x : Operand} {cx : Bool}
variable {α : Type} {f : α → List Value} {sz : Nat}
theorem Pev.pick_off {x y z : Operand} {cx cz b : Bool} {v : Value} (hx : evl l x = some (cx, .bool b)) (hc : c = true → cx = true) (hb : c = true → b = false) (hz : evl l z = some (cz, v)) (hcz : c = true → cz = true) : Pev P n l C ⟨d, .pick x y z, ty, pos, af, g⟩ c v :=
  .of_run fun h a w hs hw => by
    rw [run_pick (hs.eval hx (hc h)), hb h, cond_false, hs.eval hz (hcz h)]
theorem Pev.pick_on {x y z : Operand} {cx cy b : Bool} {v : Value} (hx : evl l x = some (cx, .bool b)) (hc : c = true → cx = true) (hb : c = true → b = true) (hy : evl l y = some (cy, v)) (hcy : c = true → cy = true) : Pev P n l C ⟨d, .pick x y z, ty, pos, af, g⟩ c v :=
  .of_run fun h a w hs hw => by
    rw [run_pick (hs.eval hx (hc h)), hb h, cond_true, hs.eval hy (hcy h)]
/-- a field of a struct that is no variable -/
theorem Pev.field {i o : Nat} {ft : TypeId} {cs : List Value} {v : Value} (hx : evl l x = some (cx, .agg cs.toArray)) (hcx : c = true → cx = true) (hf : fieldT P t i = some (ft, o)) (hv : cs[o]? = some v) : Pev P n l C ⟨d, .field t x i, ty, pos, af, g⟩ c v :=
  .of_run fun h a w hs hw => by
    unfold fieldT at hf
    cases hu : P.underlying t with
    | none => simp [hu] at hf
    | some dd =>
      rw [hu] at hf
      cases dd <;> simp only [reduceCtorEq] at hf
      rename_i fs
      cases hi : fs[i]? with
      | none => simp [hi] at hf
      | some f =>
        simp only [hi] at hf
        cases ho : lit f.offset with
        | none => simp [ho] at hf
        | some o' =>
          simp only [ho] at hf
          cases hb : scalB P f.type with
          | false => simp [hb] at hf
          | true =>
            simp only [hb] at hf
            simp only [Option.some.injEq, Prod.mk.injEq] at hf
            obtain ⟨_, rfl⟩ := hf
            have h2 := lit_eq ho
            simp [execOp, Instr.field, Sem.run_bind, run_underlying hu, hs.eval hx (hcx h), hi, asAgg, part, run_isAgg_scal hb, h2, hv]
/-- a field of an element of a grown row -/
theorem Pev.load_rowC {b o j i base m cap : Nat} {O : Nat → Prop} {e : TypeId} {L : List α} {u : α} {v : Value} (hx : evl l x = some (cx, .pointer (some ⟨b, o + j, none⟩))) (hcx : c = true → cx = true) (hp : row base O (some ⟨b, 0, none⟩) m cap e sz (cat f L) ∈ H)
    (hs : scalB P t = true) (hf : ∀ x, (f x).length = sz) (hL : c = true → L[i]? = some u) (hv : (f u)[j]? = some v) (ho : c = true → o = i * sz) : Pev P n l (Cls H S) ⟨d, .load t x, ty, pos, af, g⟩ c v :=
  .load_of hx hcx fun hc w hw => run_loadVar_scal hs (by
    rw [ho hc]
    exact row_cell (hw.item hp) (cat_get hf (hL hc) j v hv))
/-- an element of a grown row -/
theorem Pev.load_rowE {b o i base m cap : Nat} {O : Nat → Prop} {e : TypeId} {L : List α} {u : α} (hx : evl l x = some (cx, .pointer (some ⟨b, o, none⟩))) (hcx : c = true → cx = true) (hp : row base O (some ⟨b, 0, none⟩) m cap e sz (cat f L) ∈ H)
    (hs : aggN P t = some sz) (hf : ∀ x, (f x).length = sz) (hL : c = true → L[i]? = some u) (ho : c = true → o = i * sz) : Pev P n l (Cls H S) ⟨d, .load t x, ty, pos, af, g⟩ c (.agg (f u).toArray) :=
  .load_of hx hcx fun hc w hw => run_loadVar_agg (by rw [hf]; exact hs) fun j v hj => by
    rw [ho hc, add_mid]
    exact row_cell (hw.item hp) (cat_get hf (hL hc) j v hj)
end
end Go.Eng

/- A grown row that a function of the library writes over in place (a sort, a compaction). General. No condition. -/
namespace Go.Eng
open Go.RowKit Go.Sort
theorem putCells_take {α : Type} [Inhabited α] (enc : α → Value) (d : Array α) (c : Array Value) (h : d.size ≤ c.size) : (putCells enc 0 d c).toList.take d.size = d.toList.map enc := by
  apply List.ext_getElem?
  intro j
  rw [List.getElem?_take, List.getElem?_map]
  by_cases hj : j < d.size
  · rw [if_pos hj, Array.getElem?_toList, Array.getElem?_toList]
    unfold putCells
    rw [Array.getElem?_mapIdx, Array.getElem?_eq_getElem (show j < c.size by omega), Array.getElem?_eq_getElem hj]
    simp only [Option.map_some]
    rw [if_pos ⟨Nat.zero_le _, by omega⟩, Nat.sub_zero, getElem!_pos d j hj]
  · rw [if_neg hj, Array.getElem?_toList, Array.getElem?_eq_none (by omega)]; rfl
theorem putRow_heap {α : Type} [Inhabited α] (enc : α → Value) (w : World) (n g : Nat) (d : Array α) (os : Array Obj) {cur : Array Value} {e : TypeId} {fr : Nat × Nat} (hg : w.heap[g]? = some (.cells cur e fr)) :
    (grow (putRow enc (Sort.ahead w n) g 0 d) os).heap[g]? = some (.cells (putCells enc 0 d cur) e fr) := by
  have hlt : g < w.heap.size := (Array.getElem?_eq_some_iff.1 hg).1
  show ((w.heap.modify g (onCells (putCells enc 0 d))) ++ os)[g]? = _
  rw [Array.getElem?_append_left (by simpa using hlt), Array.getElem?_modify, if_pos rfl, hg]
  rfl
theorem putRow_other {α : Type} [Inhabited α] (enc : α → Value) (w : World) (n g : Nat) (d : Array α) (os : Array Obj) {k : Nat} (hk : k < w.heap.size) (hne : k ≠ g) :
    (grow (putRow enc (Sort.ahead w n) g 0 d) os).heap[k]? = w.heap[k]? := by
  show ((w.heap.modify g (onCells (putCells enc 0 d))) ++ os)[k]? = _
  rw [Array.getElem?_append_left (by simpa using hk), Array.getElem?_modify, if_neg (fun e => hne e.symm)]
theorem putRow_size {α : Type} [Inhabited α] (enc : α → Value) (w : World) (n g : Nat) (d : Array α) (os : Array Obj) : w.heap.size ≤ (grow (putRow enc (Sort.ahead w n) g 0 d) os).heap.size := by
  show _ ≤ ((w.heap.modify g (onCells (putCells enc 0 d))) ++ os).size
  simp
theorem Cls.rowPut {α : Type} [Inhabited α] {enc : α → Value} {p : Nat} {H : List Eng.Item} {S : List World} {w w' : World} {base m cap g n : Nat} {O : Nat → Prop} {e : TypeId} {xs : List Value} {F : Eng.Item → List Eng.Item}
    (hh : Hole p H (row base O (some ⟨g, 0, none⟩) m cap e 1 xs) F) (h : Cls H S w) (d : Array α) (hd : d.size = m) {os : Array Obj} (hw : w' = grow (putRow enc (Sort.ahead w n) g 0 d) os) : Cls (F (row base O (some ⟨g, 0, none⟩) m cap e 1 (d.toList.map enc))) S w' := by
  subst hw
  obtain ⟨h1, h2⟩ := hh.eq
  rw [h2]
  have hi := h.holds _ (List.mem_of_getElem? h1)
  have hO : O g := hi.1 _ rfl
  rcases hi.2.2 with ⟨h3, _⟩ | ⟨g', cap', cur, h3, hb, hg, h4, h5, h6, h7⟩
  · cases h3
  simp only [Value.slice.injEq, Option.some.injEq, Addr.mk.injEq] at h3
  obtain ⟨⟨rfl, _⟩, _, rfl⟩ := h3
  refine h.turn p h1 ⟨rfl, rfl, rfl, putRow_size _ _ _ _ _ _, fun k hk hno => putRow_other _ _ _ _ _ _ hk fun e => hno (by subst e; exact ⟨hb, hO⟩)⟩ ?_ (fun k hk => ⟨.inl hk, Nat.lt_of_lt_of_le (h.lt _ (List.mem_of_getElem? h1) k hk) (putRow_size _ _ _ _ _ _)⟩) (fun k hk => hk)
  refine ⟨fun a ha => by cases ha; exact hO, by simp [hd], .inr ⟨g, cap, _, rfl, hb, putRow_heap enc w n g d os hg, h4, h5, ?_, ?_⟩⟩
  · simp only [putCells, Array.size_mapIdx]; exact h6
  · rw [Nat.mul_one, ← hd]
    exact putCells_take enc d cur (by omega)
/-- what the library's contracts on rows ask -/
theorem row_holds {α : Type} [Inhabited α] {enc : α → Value} {w : World} {base m cap g : Nat} {O : Nat → Prop} {e : TypeId} {d : Array α} (h : (row base O (some ⟨g, 0, none⟩) m cap e 1 (d.toList.map enc)).holds w) : Holds enc w g 0 d ∧ g < w.heap.size := by
  rcases h.2.2 with ⟨h3, _⟩ | ⟨g', cap', cur, h3, hb, hg, h4, h5, h6, h7⟩
  · cases h3
  simp only [Value.slice.injEq, Option.some.injEq, Addr.mk.injEq] at h3
  obtain ⟨⟨rfl, _⟩, _, rfl⟩ := h3
  refine ⟨fun j hj => ⟨?_, ?_⟩, (Array.getElem?_eq_some_iff.1 hg).1⟩
  · rw [Nat.zero_add]
    refine row_cell h ?_
    rw [List.getElem?_map, Array.getElem?_toList, Array.getElem?_eq_getElem hj, getElem!_pos d j hj]; rfl
  · simp [World.frozen?, hg]
end Go.Eng
