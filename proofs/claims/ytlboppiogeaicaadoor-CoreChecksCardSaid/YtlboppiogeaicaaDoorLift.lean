/- From a law's walk to its row: the arguments read behind the call as before, where nothing that was there has turned; types as trees out of a reading. General. No condition. -/
import Derived.Test.YtlboppiogeaicaaDoorTyp
import Derived.ProofKit
import Derived.OpenShut
import Derived.WideKeyArgs
import Derived.ChangeArms
import Derived.DataReads
namespace Go.Eng
open Go.RowKit Go.ChangeShapes Go.WideShapes Go.ChangeAt
set_option linter.unusedVariables false
set_option linter.unusedSimpArgs false

section
variable {H : Type} {enc : TypeId × Value → H} {P : Program}

def readableB (P : Program) (ts : List TypeId) : Bool := ts.all fun t => P.readableRec t && Nat.blt t P.types.size

theorem trodAll_stays (hl : laidOutB P = true) {W W' : World} (hb : Below W.heap.size W W') {sp : Nat → Bool} :
    ∀ {ts : List TypeId} {vs : List Value} {ds : List (DataW H)} {ps : List MemPlace}, readableB P ts = true → DataW.TrodAll enc P W 0 (fun _ => true) true ts vs ds ps →
      (∀ x ∈ ps, x.block < W.heap.size) → (∀ x ∈ ps, sp x.block = true) → DataW.TrodAll enc P W' 0 sp true ts vs ds ps
  | [], vs, ds, ps, _, h, _, _ => by
    obtain ⟨rfl, rfl, rfl⟩ := trodAll_nil h
    exact trodAll_mk0
  | t :: ts, vs, ds, ps, hr, h, hlt, hsp => by
    obtain ⟨v, vs', d, ds', p, q, rfl, rfl, rfl, h0, h1⟩ := trodAll_cons h
    simp only [readableB, List.all_cons, Bool.and_eq_true] at hr
    have hrow : t < P.types.size := Nat.le_of_ble_eq_true hr.1.2
    exact trodAll_cons_mk (Go.WideElems.Trod_stays hl hr.1.1 hrow h0 (fun x hx => hb.same (hlt x (List.mem_append_left _ hx))) (fun x hx => hsp x (List.mem_append_left _ hx)))
      (trodAll_stays hl hb (by simpa [readableB] using hr.2) h1 (fun x hx => hlt x (List.mem_append_right _ hx)) (fun x hx => hsp x (List.mem_append_right _ hx)))

/-- THE LAW's LAST STEP: it returned true, and nothing that was there has turned. -/
theorem law_post {f : Func} {s : ChangeSpec} {W W' : World} {args : Array Value} {ds : List (DataW H)} {p : List MemPlace} {tb : TypeId} (hl : laidOutB P = true) (hrd : readableB P f.params.toList = true)
    (hv : s.vars = []) (hrt : f.resultTypes = #[tb]) (hu : P.underlying tb = some .bool) (hfn : s.fn H ds = { results := [.lit (.bool true)], args := ds })
    (hW : DataW.Whole enc P f.params.toList s.vars false W args.toList ds [] p) (hA : DataW.TrodAll enc P W 0 (fun _ => true) true f.params.toList args.toList ds p) (hb : Below W.heap.size W W') :
    s.post enc P f false true false false W args (.bool true) W' := by
  have hlt : ∀ x ∈ p, x.block < W.heap.size := fun x hx => hW.lt x hx
  have hargs : ∀ sp : Nat → Bool, (∀ x ∈ p, sp x.block = true) → DataW.TrodAll enc P W' 0 sp true f.params.toList args.toList ds p := fun sp hsp => trodAll_stays hl hb hrd hA hlt hsp
  have hres : ∀ (b : Nat) (sp : Nat → Bool) (hd : Bool), DataW.TrodAll enc P W' b sp hd f.resultTypes.toList ((Value.bool true).resultList f.resultTypes.size) [.lit (.bool true)] [] := by
    intro b sp hd
    rw [hrt]
    exact trodAll_cons_mk (shut_bool hu _) trodAll_mk0
  have hold : ∀ x ∈ p, (fun b => decide (b < W.heap.size)) x.block = true := fun x hx => by simpa using hlt x hx
  have hok : ∀ (j : Nat) (t : TypeId) (r : Value), f.resultTypes[j]? = some t → ((Value.bool true).resultList f.resultTypes.size)[j]? = some r → Value.okWide P W' .any 0 t r :=
    ok_one hrt rfl (okWide_bool_mk hu _)
  have hfn' : s.fn H (ds ++ []) = { results := [.lit (.bool true)], args := ds } := by rw [List.append_nil]; exact hfn
  have hvars : ∀ sp : Nat → Bool, DataW.TrodVars enc P W' sp s.vars (s.fn H (ds ++ [])).vars [] := fun sp => by rw [hv, hfn']; rfl
  refine ⟨ds, [], p, [], p, [], hW, ?_, ?_, ?_, World.keptBut_mono (fun x hx => ⟨hx, ?_⟩) (hb.frame (· ∈ p)), fun _ => ?_⟩
  · rw [hfn']; exact hres _ _ _
  · rw [hfn']; exact hargs _ hold
  · exact hvars _
  · exact .inr (by simpa using hx)
  · obtain ⟨_, _, _, _, _, hz, hn⟩ := hW
    refine ⟨hok, _, _, ([] ++ p) ++ [], ⟨[] ++ p, [], trodAll_append (hargs _ (fun _ _ => rfl)) (hres _ _ _), hvars _, rfl, ?_, ?_⟩, ?_⟩
    · intro b off hp
      have hin : MemPlace.cell b off ∈ p := by simpa using hp
      rw [hb.frozen (hlt _ hin)]
      exact hz b off hin
    · intro ha; cases ha
    · intro x hx _
      simpa using hx

/-! ### readings -/

variable {w : World} {spare : Nat → Bool} {held : Bool}

theorem cell_lt {a : Addr} {v : Value} (h : w.cell? a = some v) : a.block < w.heap.size := by
  unfold World.cell? at h
  rcases Nat.lt_or_ge a.block w.heap.size with hl | hl
  · exact hl
  · rw [Array.getElem?_eq_none hl] at h; cases h
theorem cellsAt_of {a : Addr} {n : Nat} {cs : List Value} (h : w.cells? 0 a n = some cs) : CellsAt w a cs ∧ cs.length = n := by
  obtain ⟨_, hl, hc⟩ := World.cells?_some h
  refine ⟨fun j v hj => ?_, hl⟩
  have hjl : j < n := by
    rw [← hl]
    exact (List.getElem?_eq_some_iff.1 hj).1
  rw [hc j hjl]; exact hj

/-- A SLICE THAT READS: nil, or its elements each read (with less fuel) -/
theorem slice_reads {t e : TypeId} {sz fuel : Nat} {cs : List Value} {x : DataW H × List MemPlace} (ht : P.underlying t = some (.slice e)) (hs : P.cellsOf e = sz) (h : DataW.trod enc P w 0 spare held fuel t cs = some x) :
    ∃ (q : Option Addr) (len cap : Nat), cs = [.slice q len cap] ∧ len ≤ cap ∧ cap ≤ maxLen ∧ (q = none → len = 0) ∧
      ∃ n, n < fuel ∧ ∀ a, q = some a → ∀ i, i < len → ∃ cs' y, CellsAt w (a.add (i * sz)) cs' ∧ cs'.length = sz ∧ DataW.trod enc P w 0 spare held n e cs' = some y := by
  rcases DataW.trod_slice ht h with ⟨rfl, _⟩ | ⟨a, len, cap, elems, rest, n, hf, rfl, _, _, hl, hm, hlen, hel, _, _⟩
  · refine ⟨none, 0, 0, rfl, Nat.le_refl _, by simp [maxLen], fun _ => rfl, 0, ?_, fun a ha => by cases ha⟩
    cases fuel with
    | zero => simp [DataW.trod] at h
    | succ n => omega
  · refine ⟨some a, len, cap, rfl, hl, hm, (fun hn => by cases hn), n, by omega, fun a' ha i hi => ?_⟩
    obtain rfl := Option.some.inj ha
    have h1 := hel i hi
    rw [List.getElem?_eq_getElem (by omega)] at h1
    rw [hs] at h1
    obtain ⟨cs', hc, ht'⟩ := Option.bind_eq_some_iff.1 h1
    obtain ⟨h2, h3⟩ := cellsAt_of hc
    exact ⟨cs', _, h2, h3, ht'⟩

theorem wf_i64 {m : Int} (h : (Lit.int .i64 m).wf = true) : I64 m := by
  simp only [Lit.wf, IntKind.min, IntKind.max, IntKind.signed, IntKind.bits, Bool.and_eq_true, decide_eq_true_eq] at h
  unfold I64
  have h1 := h.1; have h2 := h.2
  simp at h1 h2
  omega

/-- the elements of a slice as trees, one by one -/
theorem tyAll_of {B : Nat} : ∀ (len : Nat) (a : Addr), (∀ i, i < len → ∃ cs t, CellsAt w (a.add (i * 4)) cs ∧ TyC w B t cs) → ∃ ts : List Ty, ts.length = len ∧ TyAll w B ts a
  | 0, a, _ => ⟨[], rfl, by simp only [TyAll]⟩
  | len + 1, a, h => by
    obtain ⟨cs, t, h1, h2⟩ := h 0 (by omega)
    obtain ⟨ts, h3, h4⟩ := tyAll_of len (a.add 4) (fun i hi => by
      obtain ⟨cs, t, h5, h6⟩ := h (i + 1) (by omega)
      refine ⟨cs, t, ?_, h6⟩
      rw [add_add]
      rwa [show 4 + i * 4 = (i + 1) * 4 from by omega])
    exact ⟨t :: ts, by simp [h3], by simp only [TyAll]; exact ⟨⟨cs, h1, h2⟩, h4⟩⟩

/-- A TYPE THAT READS IS A TREE. -/
theorem ty_of {tT tS tI tN : TypeId} {f0 f1 f2 f3 : Field} (hT : P.underlying tT = some (.struct #[f0, f1, f2, f3])) (hI : P.underlying tI = some (.int .i64)) (hN : P.underlying tN = some .string) (hS : P.underlying tS = some (.slice tT))
    (h0 : f0.type = tI ∧ f0.offset = 0) (h1 : f1.type = tN ∧ f1.offset = 1) (h2 : f2.type = tI ∧ f2.offset = 2) (h3 : f3.type = tS ∧ f3.offset = 3)
    (c0 : P.cellsOf tI = 1) (c1 : P.cellsOf tN = 1) (c3 : P.cellsOf tS = 1) (cT : P.cellsOf tT = 4) :
    ∀ (fuel : Nat) {cs : List Value} {x : DataW H × List MemPlace}, DataW.trod enc P w 0 spare held fuel tT cs = some x → ∃ t, TyC w w.heap.size t cs := by
  intro fuel
  induction fuel using Nat.strongRecOn with
  | _ fuel ih =>
    intro cs x h
    obtain ⟨xs, n, hfu, hx, hlen, hxl, hf⟩ := DataW.trod_struct hT h
    rw [cT] at hlen
    match cs, hlen with
    | [a0, a1, a2, a3], _ =>
      have g0 := hf 0 f0 rfl
      have g1 := hf 1 f1 rfl
      have g2 := hf 2 f2 rfl
      have g3 := hf 3 f3 rfl
      simp only [List.size_toArray, List.length_cons, List.length_nil] at hxl
      rw [h0.1, h0.2, c0, List.getElem?_eq_getElem (by omega)] at g0
      rw [h1.1, h1.2, c1, List.getElem?_eq_getElem (by omega)] at g1
      rw [h2.1, h2.2, c0, List.getElem?_eq_getElem (by omega)] at g2
      rw [h3.1, h3.2, c3, List.getElem?_eq_getElem (by omega)] at g3
      obtain ⟨k, e0, _, w0⟩ := DataW.trod_int hI g0
      obtain ⟨s, e1, _, _⟩ := DataW.trod_string hN g1
      obtain ⟨v, e2, _, w2⟩ := DataW.trod_int hI g2
      obtain ⟨q, len, cap, e3, hle, hcap, hq0, m, hm, hel⟩ := slice_reads hS cT g3
      simp at e0 e1 e2 e3
      subst e0 e1 e2 e3
      have hnl : ∃ ts : List Ty, ts.length = len ∧ (0 < len → ∃ a, q = some a ∧ a.block < w.heap.size ∧ TyAll w w.heap.size ts a) := by
        cases q with
        | none => exact ⟨[], by simp [hq0 rfl], fun hl => by have := hq0 rfl; omega⟩
        | some a =>
          have hall : ∀ i, i < len → ∃ cs t, CellsAt w (a.add (i * 4)) cs ∧ TyC w w.heap.size t cs := fun i hi => by
            obtain ⟨cs', y, hc, hl4, ht⟩ := hel a rfl i hi
            obtain ⟨t, ht'⟩ := ih m (by omega) ht
            exact ⟨cs', t, hc, ht'⟩
          obtain ⟨ts, h5, h6⟩ := tyAll_of len a hall
          refine ⟨ts, h5, fun hl => ⟨a, rfl, ?_, h6⟩⟩
          obtain ⟨cs', y, hc, hl4, _⟩ := hel a rfl 0 hl
          cases cs' with
          | nil => simp at hl4
          | cons u r => exact cell_lt (a := a) (v := u) (hc 0 u rfl)
      obtain ⟨ts, rfl, hall⟩ := hnl
      refine ⟨.mk k s v ts, ?_⟩
      simp only [TyC]
      refine ⟨q, cap, rfl, wf_i64 w0, wf_i64 w2, ?_, hall⟩
      unfold maxLen at hcap
      omega
end
end Go.Eng
