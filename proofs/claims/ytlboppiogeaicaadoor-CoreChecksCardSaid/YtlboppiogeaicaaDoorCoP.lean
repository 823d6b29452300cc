/- Plain: core expressions as lists of nodes and as trees; parents, depth, scopes, free identifiers. No program in sight. No condition. -/
import Derived.Test.YtlboppiogeaicaaDoorTyp
namespace Go.Co
set_option linter.unusedVariables false
set_option linter.unusedSimpArgs false
structure Al where
  tag : Int
  binds : List Int
structure Ex where
  op : Int
  n : Int
  binds : List Int
  kids : List Int
  alts : List Al
inductive Tr where
  | mk (op n : Int) (binds : List Int) (kids : List Tr) (alts : List Al)
def leaf : Tr := .mk 0 0 [] [] []
/-- kids stand ahead of their parents -/
def Down (e : List Ex) : Prop := ∀ (i : Nat) (x : Ex), e[i]? = some x → ∀ k ∈ x.kids, 0 ≤ k ∧ k < (i : Int)
def grow (e : List Ex) (i : Nat) : Tr :=
  match e[i]? with
  | none => leaf
  | some x => .mk x.op x.n x.binds (x.kids.map fun k => if h : k.toNat < i then grow e k.toNat else leaf) x.alts
theorem grow_eq {e : List Ex} (h : Down e) {i : Nat} {x : Ex} (hx : e[i]? = some x) : grow e i = .mk x.op x.n x.binds (x.kids.map fun k => grow e k.toNat) x.alts := by
  rw [grow, hx]
  simp only [Tr.mk.injEq, true_and, and_true]
  refine List.map_congr_left fun k hk => ?_
  have := h i x hx k hk
  rw [dif_pos (by omega)]
/-- what a node binds in its kid k -/
def bound (op : Int) (binds : List Int) (alts : List Al) (k : Nat) : List Int :=
  if op = 2 ∨ op = 5 ∨ (op = 4 ∧ k = 1) then binds else if 0 < alts.length ∧ 0 < k ∧ k ≤ alts.length then (alts.getD (k - 1) ⟨0, []⟩).binds else []
def scopeX (x : Ex) (k : Nat) : List Int := bound x.op x.binds x.alts k
mutual
/-- free identifiers, with repetitions -/
def fv : Tr → List Int → List Int
  | .mk op n binds kids alts, sc => (if op = 0 ∧ ¬ n ∈ sc then [n] else []) ++ fvs op binds alts kids 0 sc
def fvs (op : Int) (binds : List Int) (alts : List Al) : List Tr → Nat → List Int → List Int
  | [], _, _ => []
  | t :: r, k, sc => fv t (bound op binds alts k ++ sc) ++ fvs op binds alts r (k + 1) sc
end
mutual
def size : Tr → Nat
  | .mk _ _ _ kids _ => sizes kids + 1
def sizes : List Tr → Nat
  | [] => 0
  | t :: r => size t + sizes r
end
mutual
def high : Tr → Nat
  | .mk _ _ _ kids _ => highs kids + 1
def highs : List Tr → Nat
  | [] => 0
  | t :: r => max (high t) (highs r)
end
/-- node i has parent p, of which it is kid number m -/
def Par (e : List Ex) (i p m : Nat) : Prop := ∃ x, e[p]? = some x ∧ x.kids[m]? = some (i : Int)
/-- a list that is a tree: each node but the last one has exactly one parent, and one place there -/
structure IsTree (e : List Ex) : Prop where
  down : Down e
  one : ∀ i, i + 1 < e.length → ∃ p m, Par e i p m
  uniq : ∀ i p m p' m', Par e i p m → Par e i p' m' → p = p' ∧ m = m'
theorem Par.lt {e : List Ex} (h : Down e) {i p m : Nat} (hp : Par e i p m) : i < p ∧ p < e.length := by
  obtain ⟨x, h1, h2⟩ := hp
  have := h p x h1 i (List.mem_of_getElem? h2)
  exact ⟨by omega, (List.getElem?_eq_some_iff.1 h1).1⟩
/-- i stands at or below j, and what is bound on the way from j down to i -/
inductive Under (e : List Ex) : Nat → Nat → List Int → Prop where
  | here {i : Nat} : Under e i i []
  | up {i p m j : Nat} {sc : List Int} {x : Ex} (hp : Par e i p m) (hx : e[p]? = some x) (h : Under e p j sc) : Under e i j (scopeX x m ++ sc)
theorem Under.le {e : List Ex} (hd : Down e) {i j : Nat} {sc : List Int} (h : Under e i j sc) : i ≤ j := by
  induction h with
  | here => exact Nat.le_refl _
  | up hp hx _ ih => have := hp.lt hd; omega
/-- the way down: a step below j -/
theorem Under.down {e : List Ex} {i k j m : Nat} {sc : List Int} {x : Ex} (h : Under e i k sc) (hp : Par e k j m) (hx : e[j]? = some x) : Under e i j (sc ++ scopeX x m) := by
  induction h with
  | here =>
    have := Under.up hp hx (Under.here (e := e) (i := j))
    simpa using this
  | up hp' hx' _ ih =>
    have := Under.up hp' hx' (ih hp)
    simpa [List.append_assoc] using this
theorem Under.split {e : List Ex} {i j : Nat} {sc : List Int} (h : Under e i j sc) : i = j ∧ sc = [] ∨ ∃ k m x sc', Under e i k sc' ∧ Par e k j m ∧ e[j]? = some x ∧ sc = sc' ++ scopeX x m := by
  induction h with
  | here => exact .inl ⟨rfl, rfl⟩
  | @up i p m j sc x hp hx h ih =>
    right
    rcases ih with ⟨rfl, rfl⟩ | ⟨k, m', x', sc', h1, h2, h3, rfl⟩
    · exact ⟨i, m, x, [], .here, hp, hx, by simp⟩
    · exact ⟨k, m', x', scopeX x m ++ sc', .up hp hx h1, h2, h3, by simp⟩
theorem Under.uniq {e : List Ex} (ht : IsTree e) {i j : Nat} {sc sc' : List Int} (h : Under e i j sc) (h' : Under e i j sc') : sc = sc' := by
  induction h generalizing sc' with
  | here =>
    cases h' with
    | here => rfl
    | up hp hx h2 => have := h2.le ht.down; have := (hp.lt ht.down).1; omega
  | up hp hx h ih =>
    cases h' with
    | here => have := h.le ht.down; have := (hp.lt ht.down).1; omega
    | up hp2 hx2 h2 =>
      obtain ⟨rfl, rfl⟩ := ht.uniq _ _ _ _ _ hp hp2
      rw [hx] at hx2
      obtain rfl := Option.some.inj hx2
      rw [ih h2]
/-- every node stands below the last one -/
theorem IsTree.root {e : List Ex} (ht : IsTree e) {i : Nat} (hi : i < e.length) : ∃ sc, Under e i (e.length - 1) sc := by
  induction hm : e.length - i using Nat.strongRecOn generalizing i with
  | _ m ih =>
    by_cases hl : i + 1 < e.length
    · obtain ⟨p, q, hp⟩ := ht.one i hl
      have hlt := hp.lt ht.down
      obtain ⟨sc, hs⟩ := ih (e.length - p) (by omega) hlt.2 rfl
      exact ⟨_, .up hp (List.getElem?_eq_getElem hlt.2) hs⟩
    · rw [show i = e.length - 1 by omega]
      exact ⟨[], .here⟩
theorem mem_fvs {op : Int} {binds : List Int} {alts : List Al} {n : Int} : ∀ {ts : List Tr} {k : Nat} {sc : List Int}, n ∈ fvs op binds alts ts k sc ↔ ∃ (m : Nat) (t : Tr), ts[m]? = some t ∧ n ∈ fv t (bound op binds alts (k + m) ++ sc)
  | [], k, sc => by simp [fvs]
  | t :: r, k, sc => by
    rw [fvs, List.mem_append, mem_fvs]
    constructor
    · rintro (h | ⟨m, u, h1, h2⟩)
      · exact ⟨0, t, rfl, h⟩
      · exact ⟨m + 1, u, by simpa using h1, by rwa [show k + (m + 1) = k + 1 + m by omega]⟩
    · rintro ⟨m, u, h1, h2⟩
      cases m with
      | zero =>
        simp at h1
        subst h1
        exact .inl h2
      | succ m => exact .inr ⟨m, u, by simpa using h1, by rwa [show k + 1 + m = k + (m + 1) by omega]⟩
/-- the free identifiers below a node are those of the occurrences that nothing binds on the way -/
theorem mem_fv {e : List Ex} (hd : Down e) {n : Int} : ∀ (i : Nat), i < e.length → ∀ (sc : List Int), n ∈ fv (grow e i) sc ↔ ∃ j x sc', e[j]? = some x ∧ x.op = 0 ∧ x.n = n ∧ Under e j i sc' ∧ ¬ n ∈ sc' ++ sc := by
  intro i
  induction i using Nat.strongRecOn with
  | _ i ih =>
    intro hi sc
    have hx : e[i]? = some e[i] := List.getElem?_eq_getElem hi
    rw [grow_eq hd hx, fv, List.mem_append, mem_fvs]
    constructor
    · rintro (h | ⟨m, t, h1, h2⟩)
      · split at h
        · rename_i hc
          simp at h
          subst h
          exact ⟨i, _, [], hx, hc.1, rfl, .here, by simpa using hc.2⟩
        · cases h
      · rw [List.getElem?_map] at h1
        cases hk : (e[i].kids)[m]? with
        | none => simp [hk] at h1
        | some k =>
          simp only [hk, Option.map_some, Option.some.injEq] at h1
          subst h1
          have hlt := hd i _ hx k (List.mem_of_getElem? hk)
          have hkn : ((k.toNat : Nat) : Int) = k := by omega
          have hp : Par e k.toNat i m := ⟨_, hx, by rw [hkn]; exact hk⟩
          obtain ⟨j, y, sc', h3, h4, h5, h6, h7⟩ := (ih k.toNat (by omega) (by omega) _).1 h2
          refine ⟨j, y, sc' ++ scopeX e[i] m, h3, h4, h5, h6.down hp hx, ?_⟩
          simpa [scopeX, List.append_assoc] using h7
    · rintro ⟨j, y, sc', h3, h4, h5, h6, h7⟩
      rcases h6.split with ⟨rfl, rfl⟩ | ⟨k, m, x, sc2, g1, g2, g3, rfl⟩
      · left
        rw [hx] at h3
        obtain rfl := Option.some.inj h3
        rw [if_pos ⟨h4, by rw [h5]; simpa using h7⟩]
        simp [h5]
      · right
        rw [hx] at g3
        obtain rfl := Option.some.inj g3
        obtain ⟨x', g4, g5⟩ := g2
        rw [hx] at g4
        obtain rfl := Option.some.inj g4
        have hlt := hd i _ hx k (List.mem_of_getElem? g5)
        refine ⟨m, grow e k, by rw [List.getElem?_map, g5]; simp, ?_⟩
        refine (ih k (by omega) (by omega) _).2 ⟨j, y, sc2, h3, h4, h5, g1, ?_⟩
        simpa [scopeX, List.append_assoc] using h7
end Go.Co
