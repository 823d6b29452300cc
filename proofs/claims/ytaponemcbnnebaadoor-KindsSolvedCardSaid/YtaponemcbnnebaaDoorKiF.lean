/- Plain: the parts of a well-formed type. No condition. -/
import Derived.Test.YtaponemcbnnebaaDoorKiE
namespace Go.Ki
open Go.Eng Go.RowKit
open Go.Proofs.YtaponemcbnnebaaDoor.ki (Joined)
set_option linter.unusedVariables false
set_option linter.unusedSimpArgs false
theorem wf_un {k v : Int} {nm : ByteArray} {ts : List Ty} {row : Bool} (h : wf (.mk k nm v ts) row = true) : (0 ≤ k ∧ k ≤ 5) ∧ (k = 0 ∨ row = decide (3 < k)) ∧ (k ≠ 0 ∨ 0 ≤ v) ∧ (manyOf k < 0 ∨ manyOf k = ts.length) ∧ wfs k ts 0 = true := by
  rw [wf] at h
  simp only [Bool.and_eq_true, Bool.or_eq_true, decide_eq_true_eq] at h
  obtain ⟨⟨⟨⟨h1, h2⟩, h3⟩, h4⟩, h5⟩ := h
  exact ⟨h1, h2, h3, h4, h5⟩
theorem wfs_get {k : Int} : ∀ {ts : List Ty} {i j : Nat} {t : Ty}, wfs k ts i = true → ts[j]? = some t → wf t ((decide (k = 2) && decide (i + j = 1)) || decide (k = 3) || (decide (k = 5) && decide (i + j = 1))) = true
  | [], _, _, _, _, h => by simp at h
  | u :: r, i, 0, t, h, ht => by
    rw [wfs, Bool.and_eq_true] at h
    simp at ht; subst ht
    exact h.1
  | u :: r, i, j + 1, t, h, ht => by
    rw [wfs, Bool.and_eq_true] at h
    have := wfs_get (i := i + 1) (j := j) h.2 (by simpa using ht)
    rwa [show i + 1 + j = i + (j + 1) by omega] at this
def zipP (ps : List Pa) (l : List Nat) : List Pt := List.zipWith Pt.mk ps l
theorem pts_zip : ∀ {ps : List Pa} {l : List Nat}, ps.length ≤ l.length → pts (zipP ps l) = ps.map Pa.t
  | [], _, _ => rfl
  | p :: ps, [], h => by simp at h
  | p :: ps, s :: l, h => by
    have := pts_zip (ps := ps) (l := l) (by simpa using h)
    simp only [pts, zipP] at this
    simp [zipP, pts, this]
theorem pss_zip (f : Nat → Int) : ∀ {ps : List Pa} {l : List Nat}, l.length ≤ ps.length → pss (zipP ps l) f = l.map f
  | _, [], _ => by simp [zipP, pss]
  | [], s :: l, h => by simp at h
  | p :: ps, s :: l, h => by
    have := pss_zip f (ps := ps) (l := l) (by simpa using h)
    simp only [pss, zipP] at this
    simp [zipP, pss, this]
theorem zip_get {ps : List Pa} {l : List Nat} {i : Nat} {p : Pa} {s : Nat} (hp : ps[i]? = some p) (hs : l[i]? = some s) : (zipP ps l)[i]? = some ⟨p, s⟩ := by
  simp [zipP, List.getElem?_zipWith, hp, hs]
theorem zip_inv {ps : List Pa} {l : List Nat} {i : Nat} {x : Pt} (h : (zipP ps l)[i]? = some x) : ps[i]? = some x.p ∧ l[i]? = some x.slot := by
  simp only [zipP, List.getElem?_zipWith] at h
  cases hp : ps[i]? with
  | none => simp [hp] at h
  | some p =>
    cases hs : l[i]? with
    | none => simp [hp, hs] at h
    | some s =>
      simp [hp, hs] at h
      subst h
      exact ⟨rfl, rfl⟩
theorem snoc_zip {ps : List Pa} {l : List Nat} {i : Nat} {p : Pa} {s : Nat} (hp : ps[i]? = some p) (hs : l[i]? = some s) : cat ptc ((zipP ps l).take i) ++ [.int .i64 p.t.kind, .string p.t.name, .int .i64 p.t.var, .slice p.q p.t.args.length p.cap, .int .i64 (s : Int)] = cat ptc ((zipP ps l).take (i + 1)) := by
  rw [List.take_add_one, zip_get hp hs, cat_append]
  simp [cat, ptc]
section
variable {kn : List ByteArray} {ds : List DS} {fi : List Nat} {vs : List Nat} {σ σ' : Sol} {slot : Nat} {s0 : World} {B n : Nat} {nm : ByteArray} {v : Int} {ps : List Pa} {row : Bool} {q : Option Addr} {cap : Nat}
theorem con_none (h : psF kn nm ds fi = none) : ∀ f : Nat → Int, req (pkF kn ds fi f) (vs.map f) (.mk 1 nm v (ps.map Pa.t)) (f slot) = false := fun f => by
  rw [req]; simp [pkF, h]
theorem con_len {l : List Nat} (h : psF kn nm ds fi = some l) (hl : l.length ≠ ps.length) : ∀ f : Nat → Int, req (pkF kn ds fi f) (vs.map f) (.mk 1 nm v (ps.map Pa.t)) (f slot) = false := fun f => by
  rw [req]; simp [pkF, h, hl]
theorem con_parts {l : List Nat} (h : psF kn nm ds fi = some l) (hl : l.length = ps.length) : PartsOf (pkF kn ds fi) vs σ (.mk 1 nm v (ps.map Pa.t)) slot (zipP ps l) := ⟨fun f hf => by
  rw [req, pts_zip (by omega), pss_zip f (by omega)]
  simp [pkF, h, hl, Ty.kind]⟩
theorem fun_parts {p0 p1 p2 : Pa} (hi : Inv σ) : PartsOf (pkF kn ds fi) vs σ (.mk 2 nm v [p0.t, p1.t, p2.t]) slot [⟨p0, 0⟩, ⟨p1, 2⟩, ⟨p2, 0⟩] := ⟨fun f hf => by
  have h0 := hf.base hi (c := 0) (by omega)
  have h2 := hf.base hi (c := 2) (by omega)
  rw [req]
  simp [Ty.kind, pts, pss, h0, h2]⟩
theorem rec_parts {p0 : Pa} (hi : Inv σ) : PartsOf (pkF kn ds fi) vs σ (.mk 3 nm v [p0.t]) slot [⟨p0, 1⟩] := ⟨fun f hf => by
  have h1 := hf.base hi (c := 1) (by omega)
  rw [req]
  simp [Ty.kind, pts, pss, h1]⟩
theorem ext_parts {p0 p1 : Pa} (hi : Inv σ) : PartsOf (pkF kn ds fi) vs σ (.mk 5 nm v [p0.t, p1.t]) slot [⟨p0, 0⟩, ⟨p1, slot⟩] := ⟨fun f hf => by
  have h0 := hf.base hi (c := 0) (by omega)
  rw [req]
  simp [Ty.kind, pts, pss, h0]⟩
theorem empty_parts {ts : List Ty} : PartsOf (pkF kn ds fi) vs σ (.mk 4 nm v ts) slot [] := ⟨fun f hf => by
  rw [req]
  simp [Ty.kind, pts, pss, reqs]⟩
theorem var_no (h : (vs.length : Int) ≤ v) {ts : List Ty} : ∀ f : Nat → Int, req (pkF kn ds fi f) (vs.map f) (.mk 0 nm v ts) (f slot) = false := fun f => by
  rw [req]; simp [show ¬ v < (vs.length : Int) by omega]
theorem var_join {j x : Nat} {e : Int} {ts : List Ty} (hx : vs[j]? = some x) {C : Prop} (hj : Joined σ x slot e σ') : Wanted C (pkF kn ds fi) vs σ (.mk 0 nm (j : Int) ts) slot e σ' := by
  obtain ⟨hjl, rfl⟩ := List.getElem?_eq_some_iff.1 hx
  refine ⟨hj.inv, hj.len, fun _ h0 f => ?_, fun _ h0 => ⟨.inr (hj.bad h0).1, fun f hf => ?_⟩⟩
  · rw [hj.ok h0 f, req]
    simp [hjl, hx]
  · rw [req]
    simp [hx]
    exact fun _ => (hj.bad h0).2 f hf
/-- the parts may be asked for -/
theorem good {k : Int} (hg : wg (.mk k nm v (ps.map Pa.t)) = true) (hps : ∀ x ∈ ps, TyC s0 B x.t (tcc x)) {i : Nat} {p : Pa} {s : Nat} (hp : ps[i]? = some p) (hs : s < n)
    (hk : (k = 2 ∧ i = 1 → s = 2) ∧ (k = 3 → s = 1) ∧ (k = 5 ∧ i = 1 → s = slot)) : GoodP (Cond (.mk k nm v (ps.map Pa.t)) slot) s0 B n (Ty.mk k nm v (ps.map Pa.t)).sz ⟨p, s⟩ := by
  have hget : (ps.map Pa.t)[i]? = some p.t := by simp [hp]
  refine ⟨hps p (List.mem_of_getElem? hp), hs, by have := Ty.sz_get hget; simp only [Ty.sz]; omega, wgs_get (wg_un hg).2.2.2 hget, ?_⟩
  rintro ⟨row, hw, hro⟩
  obtain ⟨h1, h2, h3, h4, h5⟩ := wf_un hw
  have hwf := wfs_get h5 hget
  refine ⟨_, hwf, fun hr => ?_⟩
  simp only [Nat.zero_add, Bool.or_eq_true, Bool.and_eq_true, decide_eq_true_eq] at hr
  rcases hr with (hr | hr) | hr
  · exact .inr (hk.1 hr)
  · exact .inl (hk.2.1 hr)
  · rw [hk.2.2 hr]
    refine hro ?_
    rcases h2 with h2 | h2
    · omega
    · rw [h2]; simp; omega
theorem cond_slot {k : Int} {ts : List Ty} (hk : 3 < k) (h : Cond (.mk k nm v ts) slot) : slot = 1 ∨ slot = 2 := by
  obtain ⟨ro, hw, hro⟩ := h
  obtain ⟨_, h2, _⟩ := wf_un hw
  refine hro ?_
  rcases h2 with h2 | h2
  · omega
  · rw [h2]; simp; omega
end
end Go.Ki
