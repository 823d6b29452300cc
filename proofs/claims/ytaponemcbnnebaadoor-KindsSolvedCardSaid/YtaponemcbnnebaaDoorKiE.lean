/- Plain: what a type requires, told by its parts; parts of a type in memory. No condition. -/
import Derived.Test.YtaponemcbnnebaaDoorKiC
import Derived.Test.YtaponemcbnnebaaDoorRrw
namespace Go.Ki
open Go.Eng Go.RowKit
open Go.Proofs.YtaponemcbnnebaaDoor.ki (Joined)
set_option linter.unusedVariables false
set_option linter.unusedSimpArgs false
/-- a type in memory: its four cells -/
structure Pa where
  t : Ty
  q : Option Addr
  cap : Nat
def tcc (p : Pa) : List Value := [.int .i64 p.t.kind, .string p.t.name, .int .i64 p.t.var, .slice p.q p.t.args.length p.cap]
theorem tcc_len (p : Pa) : (tcc p).length = 4 := rfl
/-- a part: a type and the slot of the kind that it must have -/
structure Pt where
  p : Pa
  slot : Nat
def ptc (p : Pt) : List Value := [.int .i64 p.p.t.kind, .string p.p.t.name, .int .i64 p.p.t.var, .slice p.p.q p.p.t.args.length p.p.cap, .int .i64 (p.slot : Int)]
theorem ptc_len (p : Pt) : (ptc p).length = 5 := rfl
theorem TyC.pa {s : World} {B : Nat} {t : Ty} {cs : List Value} (h : TyC s B t cs) : ∃ p : Pa, p.t = t ∧ cs = tcc p := by
  obtain ⟨k, nm, v, ts⟩ := t
  have h' := h
  simp only [TyC] at h'
  obtain ⟨q, cap, rfl, _⟩ := h'
  exact ⟨⟨.mk k nm v ts, q, cap⟩, rfl, rfl⟩
theorem TyAll.pas {s : World} {B : Nat} : ∀ {ts : List Ty} {a : Addr}, TyAll s B ts a → ∃ ps : List Pa, ps.map Pa.t = ts ∧ CellsAt s a (cat tcc ps) ∧ ∀ p ∈ ps, TyC s B p.t (tcc p)
  | [], a, _ => ⟨[], rfl, fun j v hj => by simp [cat] at hj, by simp⟩
  | t :: r, a, h => by
    simp only [TyAll] at h
    obtain ⟨⟨cs, hcs, ht⟩, hr⟩ := h
    obtain ⟨p, rfl, rfl⟩ := TyC.pa ht
    obtain ⟨ps, rfl, h2, h3⟩ := TyAll.pas hr
    refine ⟨p :: ps, rfl, fun j v hj => ?_, fun x hx => by
      rcases List.mem_cons.1 hx with rfl | hx
      · exact ht
      · exact h3 x hx⟩
    rw [cat] at hj
    by_cases hj4 : j < 4
    · rw [List.getElem?_append_left (by rw [tcc_len]; exact hj4)] at hj
      exact hcs j v hj
    · rw [List.getElem?_append_right (by rw [tcc_len]; omega), tcc_len] at hj
      have := h2 (j - 4) v hj
      rw [add_add] at this
      rwa [show 4 + (j - 4) = j by omega] at this
theorem TyC.parts {s : World} {B : Nat} {p : Pa} (h : TyC s B p.t (tcc p)) : ∃ ps : List Pa, ps.map Pa.t = p.t.args ∧ SlAt s B p.q (cat tcc ps) ∧ ∀ x ∈ ps, TyC s B x.t (tcc x) := by
  obtain ⟨⟨k, nm, v, ts⟩, q, cap⟩ := p
  simp only [TyC, tcc, List.cons.injEq, Value.slice.injEq, and_true, true_and] at h
  obtain ⟨q2, cap2, ⟨_, _, _, rfl, _, _⟩, _, _, _, h4⟩ := h
  by_cases hl : 0 < ts.length
  · obtain ⟨a, rfl, hab, hall⟩ := h4 hl
    obtain ⟨ps, h1, h2, h3⟩ := TyAll.pas hall
    exact ⟨ps, h1, fun _ => ⟨a, rfl, hab, h2⟩, h3⟩
  · have : ts = [] := List.length_eq_zero_iff.1 (by omega)
    subst this
    exact ⟨[], rfl, SlAt.nil, by simp⟩
theorem TyC.ints {s : World} {B : Nat} {p : Pa} (h : TyC s B p.t (tcc p)) : I64 p.t.kind ∧ I64 p.t.var ∧ (p.t.args.length : Int) ≤ 9223372036854775807 := by
  obtain ⟨⟨k, nm, v, ts⟩, q, cap⟩ := p
  simp only [TyC, tcc] at h
  obtain ⟨q2, cap2, _, h1, h2, h3, _⟩ := h
  exact ⟨h1, h2, h3⟩
def pkF (kn : List ByteArray) (ds : List DS) (fi : List Nat) (f : Nat → Int) (nm : ByteArray) : Option (List Int) := (psF kn nm ds fi).map fun l => l.map f
mutual
/-- a type that may be walked -/
def wg : Ty → Bool
  | .mk k nm v ts => decide (0 ≤ k ∧ k ≤ 5) && (decide (k ≠ 0) || decide (0 ≤ v)) && (decide (manyOf k < 0) || decide (manyOf k = ts.length)) && wgs ts
def wgs : List Ty → Bool
  | [] => true
  | t :: r => wg t && wgs r
end
mutual
theorem wg_of : ∀ (t : Ty) (row : Bool) (depth seen : Int), (tyErr t row depth seen).2 = 0 → wg t = true
  | .mk k nm v ts, row, depth, seen, h => by
    by_cases h0 : nodeErr row k nm v ts.length (decide (4096 < seen + 1) || decide (400 < depth)) = 0
    · rw [tyErr_ok h0] at h
      have hs := wgs_of k ts 0 depth (seen + 1) h
      unfold nodeErr at h0
      split at h0
      · cases h0
      split at h0
      · cases h0
      rename_i h1
      split at h0
      · cases h0
      rename_i h2
      split at h0
      · cases h0
      rename_i h3
      split at h0
      · cases h0
      rename_i h4
      rw [wg, hs]
      simp only [Bool.and_true, Bool.and_eq_true, Bool.or_eq_true, decide_eq_true_eq]
      refine ⟨⟨by omega, by omega⟩, ?_⟩
      · by_cases e : manyOf k < 0
        · exact .inl e
        · right
          have : ¬ (0 ≤ manyOf k ∧ ¬ manyOf k = (ts.length : Int)) := fun h => h2 (.inl h)
          omega
    · rw [tyErr, if_neg h0] at h
      exact absurd h h0
theorem wgs_of (k : Int) : ∀ (ts : List Ty) (i : Nat) (depth seen : Int), (tyErrs k ts i depth seen).2 = 0 → wgs ts = true
  | [], i, depth, seen, _ => by simp [wgs]
  | t :: r, i, depth, seen, h => by
    rw [tyErrs] at h
    split at h
    · rename_i h0
      rw [wgs, wg_of t _ _ _ h0, wgs_of k r (i + 1) depth _ h]; rfl
    · rename_i h0
      exact absurd h h0
end
theorem wg_un {k v : Int} {nm : ByteArray} {ts : List Ty} (h : wg (.mk k nm v ts) = true) : (0 ≤ k ∧ k ≤ 5) ∧ (k ≠ 0 ∨ 0 ≤ v) ∧ (manyOf k < 0 ∨ manyOf k = ts.length) ∧ wgs ts = true := by
  rw [wg] at h
  simp only [Bool.and_eq_true, Bool.or_eq_true, decide_eq_true_eq] at h
  obtain ⟨⟨⟨h1, h2⟩, h3⟩, h4⟩ := h
  exact ⟨h1, h2, h3, h4⟩
theorem wgs_get : ∀ {ts : List Ty} {j : Nat} {t : Ty}, wgs ts = true → ts[j]? = some t → wg t = true
  | [], _, _, _, h => by simp at h
  | u :: r, 0, t, h, ht => by
    rw [wgs, Bool.and_eq_true] at h
    simp at ht; subst ht
    exact h.1
  | u :: r, j + 1, t, h, ht => by
    rw [wgs, Bool.and_eq_true] at h
    exact wgs_get h.2 (by simpa using ht)
/-- rows stand where rows must stand, and have a kind of rows -/
def Cond (t : Ty) (slot : Nat) : Prop := ∃ ro, wf t ro = true ∧ (ro = true → slot = 1 ∨ slot = 2)
/-- what want does -/
structure Wanted (C : Prop) (pk : (Nat → Int) → ByteArray → Option (List Int)) (vs : List Nat) (σ : Sol) (t : Ty) (slot : Nat) (e : Int) (σ' : Sol) : Prop where
  inv : Inv σ'
  len : σ'.up.length = σ.up.length
  ok : C → e = 0 → ∀ f, Sat σ' f ↔ Sat σ f ∧ req (pk f) (vs.map f) t (f slot) = true
  bad : C → e ≠ 0 → (e = 6 ∨ e = 9) ∧ ∀ f, Sat σ f → req (pk f) (vs.map f) t (f slot) = false
/-- a part that may be asked for -/
structure GoodP (C : Prop) (s0 : World) (B n sz : Nat) (p : Pt) : Prop where
  ty : TyC s0 B p.p.t (tcc p.p)
  sl : p.slot < n
  lt : p.p.t.sz < sz
  wg : wg p.p.t = true
  cd : C → Cond p.p.t p.slot
def pts (l : List Pt) : List Ty := l.map fun p => p.p.t
def pss (l : List Pt) (f : Nat → Int) : List Int := l.map fun p => f p.slot
/-- a type's parts tell what it requires -/
structure PartsOf (pk : (Nat → Int) → ByteArray → Option (List Int)) (vs : List Nat) (σ : Sol) (t : Ty) (slot : Nat) (l : List Pt) : Prop where
  eq : ∀ f, Sat σ f → req (pk f) (vs.map f) t (f slot) = (decide (t.kind ≤ 3 ↔ f slot = 0) && reqs (pk f) (vs.map f) (pts l) (pss l f))
/-- what is left to ask -/
structure LeftW (C : Prop) (pk : (Nat → Int) → ByteArray → Option (List Int)) (vs : List Nat) (σ : Sol) (t : Ty) (slot : Nat) (l : List Pt) (σ' : Sol) : Prop where
  inv : Inv σ'
  len : σ'.up.length = σ.up.length
  eq : C → ∀ f, (Sat σ' f ∧ reqs (pk f) (vs.map f) (pts l) (pss l f) = true) ↔ (Sat σ f ∧ req (pk f) (vs.map f) t (f slot) = true)
section
variable {C D : Prop} {pk : (Nat → Int) → ByteArray → Option (List Int)} {vs : List Nat} {σ σ' σ2 : Sol} {t : Ty} {slot : Nat} {l : List Pt} {e : Int}
theorem LeftW.nil (h : LeftW C pk vs σ t slot [] σ') : Wanted C pk vs σ t slot 0 σ' :=
  ⟨h.inv, h.len, fun hC _ f => by have := h.eq hC f; simpa [pts, pss, reqs] using this, fun _ h => absurd rfl h⟩
theorem LeftW.bad {p : Pt} (h : LeftW C pk vs σ t slot (p :: l) σ') (hD : C → D) (hw : Wanted D pk vs σ' p.p.t p.slot e σ2) (he : e ≠ 0) : Wanted C pk vs σ t slot e σ2 := by
  refine ⟨hw.inv, hw.len.trans h.len, fun _ h0 => absurd h0 he, fun hC _ => ⟨(hw.bad (hD hC) he).1, fun f hf => ?_⟩⟩
  rw [← Bool.not_eq_true]
  intro hr
  obtain ⟨h1, h2⟩ := (h.eq hC f).2 ⟨hf, hr⟩
  simp only [pts, pss, List.map_cons, reqs, (hw.bad (hD hC) he).2 f h1, Bool.false_and] at h2
  cases h2
theorem LeftW.next {p : Pt} (h : LeftW C pk vs σ t slot (p :: l) σ') (hD : C → D) (hw : Wanted D pk vs σ' p.p.t p.slot 0 σ2) : LeftW C pk vs σ t slot l σ2 := by
  refine ⟨hw.inv, hw.len.trans h.len, fun hC f => ?_⟩
  rw [← h.eq hC f, hw.ok (hD hC) rfl f]
  simp only [pts, pss, List.map_cons, reqs, Bool.and_eq_true, and_assoc]
theorem PartsOf.low (h : PartsOf pk vs σ t slot l) (hi : Inv σ) (hk : t.kind ≤ 3) (hj : Joined σ slot 0 0 σ') : LeftW C pk vs σ t slot l σ' := by
  refine ⟨hj.inv, hj.len, fun _ f => ?_⟩
  rw [hj.ok rfl f]
  constructor
  · rintro ⟨⟨h1, h2⟩, h3⟩
    rw [h1.base (c := 0) hi (by omega)] at h2
    refine ⟨h1, ?_⟩
    rw [h.eq f h1, h3]
    simp only [Bool.and_true, decide_eq_true_eq]
    exact ⟨fun _ => by simpa using h2, fun _ => hk⟩
  · rintro ⟨h1, h2⟩
    rw [h.eq f h1] at h2
    simp only [Bool.and_eq_true, decide_eq_true_eq] at h2
    exact ⟨⟨h1, by rw [h1.base (c := 0) hi (by omega)]; simpa using h2.1.1 hk⟩, h2.2⟩
theorem PartsOf.lowbad (h : PartsOf pk vs σ t slot l) (hi : Inv σ) (hk : t.kind ≤ 3) (hj : Joined σ slot 0 e σ') (he : e ≠ 0) : Wanted C pk vs σ t slot e σ' := by
  refine ⟨hj.inv, hj.len, fun _ h0 => absurd h0 he, fun _ _ => ⟨.inr (hj.bad he).1, fun f hf => ?_⟩⟩
  rw [h.eq f hf]
  have h1 := (hj.bad he).2 f hf
  rw [hf.base (c := 0) hi (by omega)] at h1
  have : ¬ (t.kind ≤ 3 ↔ f slot = 0) := fun x => h1 (by simpa using x.1 hk)
  rw [decide_eq_false this, Bool.false_and]
theorem PartsOf.high (h : PartsOf pk vs σ t slot l) (hi : Inv σ) (hk : ¬ t.kind ≤ 3) (hs : C → slot = 1 ∨ slot = 2) : LeftW C pk vs σ t slot l σ := by
  refine ⟨hi, rfl, fun hC f => ?_⟩
  have hs := hs hC
  constructor
  · rintro ⟨h1, h3⟩
    have h2 := h1.base hi (c := slot) (by omega)
    refine ⟨h1, ?_⟩
    rw [h.eq f h1, h3]
    simp only [Bool.and_true, decide_eq_true_eq]
    exact ⟨fun x => absurd x hk, fun x => by omega⟩
  · rintro ⟨h1, h2⟩
    rw [h.eq f h1] at h2
    simp only [Bool.and_eq_true, decide_eq_true_eq] at h2
    exact ⟨h1, h2.2⟩
/-- an open kind becomes that of rows -/
def opened (σ : Sol) (r : Nat) : Sol := ⟨σ.up, σ.kind.set r 1⟩
theorem opened_inv {r : Nat} (hi : Inv σ) (hk : σ.kind[r]? = some (-1)) : Inv (opened σ r) := by
  have hrl := (List.getElem?_eq_some_iff.1 hk).1
  refine ⟨by simp [opened, hi.len], hi.rt, hi.three, fun c hc => ?_, fun j q hq => ?_⟩
  · obtain ⟨d, rc, hr, hkc⟩ := hi.base c hc
    refine ⟨d, rc, hr, ?_⟩
    show (σ.kind.set r 1)[rc]? = _
    by_cases e : r = rc
    · subst e
      rw [hk] at hkc
      have := Option.some.inj hkc
      omega
    · rw [List.getElem?_set_ne e]; exact hkc
  · have hq' : (σ.kind.set r 1)[j]? = some q := hq
    by_cases e : r = j
    · subst e
      rw [List.getElem?_set_self hrl] at hq'
      have := Option.some.inj hq'
      omega
    · rw [List.getElem?_set_ne e] at hq'
      exact hi.rng _ _ hq'
/-- where the condition does not hold, nothing is told -/
theorem LeftW.off (hv : Inv σ') (hl : σ'.up.length = σ.up.length) (h : ¬ C) : LeftW C pk vs σ t slot l σ' := ⟨hv, hl, fun x => absurd x h⟩
theorem Wanted.off (hv : Inv σ') (hl : σ'.up.length = σ.up.length) (h : ¬ C) : Wanted C pk vs σ t slot e σ' := ⟨hv, hl, fun x => absurd x h, fun x => absurd x h⟩
end
end Go.Ki
