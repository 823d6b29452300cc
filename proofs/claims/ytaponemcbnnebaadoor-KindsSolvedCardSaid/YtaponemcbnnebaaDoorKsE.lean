/- Plain: what Infer answers is what all solutions agree on; the law's first data type; Infer of too many data types. Conditions: none. -/
import Derived.Test.YtaponemcbnnebaaDoorKsC
namespace Go.Ki
open Go.Eng Go.RowKit
open Go.Proofs.YtaponemcbnnebaaDoor.ki (ins)
set_option linter.unusedVariables false
set_option linter.unusedSimpArgs false
theorem infer_answer {l : List DD} {er : Int} {rows : List KR} (h : InfR l er rows) :
    (kindsR l (bsum (dss l) l.length) = none → (er = 6 ∨ er = 9) ∧ rows = []) ∧
    (∀ out, kindsR l (bsum (dss l) l.length) = some out → er = 0 ∧ rows.length = l.length ∧ out.length = l.length ∧ ∀ (i : Nat) (kr : KR), rows[i]? = some kr → ∃ d : DD, l[i]? = some d ∧ kr.nm = d.nm ∧ out[i]? = some kr.xs) := by
  generalize hM : bsum (dss l) l.length = M
  have hF : foundR l M (p3 M) = foundB M (fun f => okD (dss l) f 0 l) := rfl
  by_cases he : er = 0
  · obtain ⟨hrl, σ, hinv, hsl, hS, hrok⟩ := h.ok he
    rw [hM] at hsl hS
    have hS2 : ∀ flat, Flat M flat → (Sat σ (fOf flat) ↔ okD (dss l) flat 0 l = true) := fun flat hf => by
      rw [hS, rD_ok]
      exact ⟨fun h => h.2, fun h => ⟨sigN_sat hf, h⟩⟩
    have hne := found_some hinv hsl hS2
    refine ⟨fun hk => ?_, fun out ho => ⟨he, hrl, ?_⟩⟩
    · unfold kindsR at hk
      rw [hF, if_neg hne] at hk
      cases hk
    · unfold kindsR at ho
      rw [hF, if_neg hne] at ho
      have ho := Option.some.inj ho
      refine ⟨by rw [← ho]; simp, fun i kr hi => ?_⟩
      obtain ⟨d, hd, h1, h2, h3⟩ := hrok i kr hi
      refine ⟨d, hd, h1, ?_⟩
      have hil := (List.getElem?_eq_some_iff.1 hd).1
      have hd2 : (dss l)[i]? = some d.ds := by simp [dss, hd]
      have hs1 := bsum_succ hd2
      have hs2 := bsum_mono (ds := dss l) (i := i + 1) (j := (dss l).length) (by rw [dss_length]; omega) (Nat.le_refl _)
      rw [dss_length, hM] at hs2
      have hp : (l.map DD.params).getD i 0 = d.params := by simp [List.getD, hd]
      rw [← ho, List.getElem?_map, List.getElem?_range hil, Option.map_some, hp]
      congr 1
      refine List.ext_getElem? fun p => ?_
      by_cases hpl : p < d.params
      · have hx : kr.xs[p]? = some kr.xs[p] := List.getElem?_eq_getElem (by omega)
        obtain ⟨dd, r, k, hr, hk, hv⟩ := h3 p _ hx
        have hlt : bsum (dss l) i + p < M := by
          have : d.ds.params = d.params := rfl
          omega
        rw [hx, hv, ← agree_root hinv hsl hS2 hlt hr hk]
        simp [hpl]
      · rw [List.getElem?_eq_none (l := kr.xs) (by omega), List.getElem?_eq_none (by simp; omega)]
  · obtain ⟨h1, h2, h3⟩ := h.bad he
    rw [hM] at h3
    have hno : foundB M (fun f => okD (dss l) f 0 l) = [] := none_found fun flat hf => by
      rw [← rD_ok]
      exact h3 _ (sigN_sat hf)
    refine ⟨fun _ => ⟨h1, h2⟩, fun out ho => ?_⟩
    unfold kindsR at ho
    rw [hF, hno, if_pos rfl] at ho
    cases ho
/-- the law's first data type -/
def vT : Pa := ⟨.mk 0 ⟨#[]⟩ 0 [], none, 0⟩
def rT (q : Option Addr) : Pa := ⟨.mk 3 ⟨#[]⟩ 0 [vT.t], q, 1⟩
def oneD (qc qa qv : Option Addr) : List DD := [⟨⟨#[84]⟩, 1, qc, 1, [⟨⟨#[67]⟩, qa, 1, [rT qv]⟩]⟩]
theorem oneD_kinds (qc qa qv : Option Addr) : kindsR (oneD qc qa qv) (bsum (dss (oneD qc qa qv)) (oneD qc qa qv).length) = some [[1]] := by
  rfl
theorem oneD_ok (qc qa qv : Option Addr) : InfOk (oneD qc qa qv) where
  len := by simp [oneD]
  par := by simp [oneD]
  sum := by simp [oneD, bsum, dss, DD.ds]
  dis := fun i j d e hji hi hj => by
    have h1 := (List.getElem?_eq_some_iff.1 hi).1
    simp [oneD] at h1
    omega
  bnd := by simp [oneD]
  typ := fun d hd c hc a ha => by
    simp only [oneD, List.mem_cons, List.not_mem_nil, or_false] at hd
    subst hd
    simp only [List.mem_cons, List.not_mem_nil, or_false] at hc
    subst hc
    simp only [List.mem_cons, List.not_mem_nil, or_false] at ha
    subst ha
    exact ⟨(by decide +kernel : (tyErr (.mk 3 ⟨#[]⟩ 0 [.mk 0 ⟨#[]⟩ 0 []]) false 1 0).2 = 0), (by decide +kernel : rowA (.mk 3 ⟨#[]⟩ 0 [.mk 0 ⟨#[]⟩ 0 []]) = false)⟩
theorem one_answer {qc qa qv : Option Addr} {er : Int} {rows : List KR} (h : InfR (oneD qc qa qv) er rows) : er = 0 ∧ ∃ kr : KR, rows = [kr] ∧ kr.xs = [1] := by
  obtain ⟨h1, h2, _, h3⟩ := (infer_answer h).2 _ (oneD_kinds qc qa qv)
  obtain ⟨kr, rfl⟩ := List.length_eq_one_iff.1 (show rows.length = 1 from h2)
  obtain ⟨d, _, _, h4⟩ := h3 0 kr rfl
  exact ⟨h1, kr, rfl, by simpa using h4.symm⟩
end Go.Ki
namespace Go.Proofs.YtaponemcbnnebaaDoor.ki
open Go.RowKit Go.Eng Go.Ki
set_option linter.unusedVariables false
set_option linter.unusedSimpArgs false
set_option maxRecDepth 100000
theorem infer_large (qd : Option Addr) (n cd : Nat) (w : World) (hn : 4096 < n) :
    Calls Tryd.prog 14 #[.slice none 0 0, .slice qd n cd] w fun e w' => e = .returned (.tuple #[.slice none 0 0, .int .i64 2]) ∧ Ext w w' := by
  refine enter Tryd.func14 rfl Tryd.ntmps14 rfl (Cls.start w) ?_
  (simp only [argEnv, Nat.zero_add, Nat.reduceAdd])
  apply W.seq
  apply W.reg
  apply oas; rfl; rfl
  apply oas; rfl; rfl
  apply OL.nil
  with_reducible apply At.next
  apply W.seq
  apply W.seq
  apply W.reg
  apply omv; rfl; rfl
  (((first | (with_reducible apply OL.op) | (with_reducible apply QL.op)); ((first | exact Guard.none | exact Guard.yes rfl rfl | exact Guard.no rfl rfl | exact Guard.cyes rfl rfl | exact Guard.cno rfl rfl)); rfl; rfl); (exact Pev.call rfl (by (repeat (first | exact Args.nil | (apply Args.cons rfl; ((first | exact fun _ => rfl | exact fun h => h | (intro h; simp_all; done))))))) (fun _ w2 hw2 => (kcheck_calls none 0 [] w2 (by simp) (by simp) SlAt.nil).mono (fun e w3 h => ⟨h.1, hw2.ext h.2⟩))))
  apply oas; rfl; rfl
  apply OL.nil
  with_reducible apply At.next
  apply W.seq
  apply W.reg
  apply omv; rfl; rfl
  apply obn; rfl; rfl; rfl; apply Bin.neq
  apply OL.nil
  with_reducible apply At.next
  refine W.cond rfl (fun hb => by simp at hb) (fun _ => ?_)
  apply W.skip
  with_reducible apply At.next
  apply W.seq
  apply W.seq
  apply W.reg
  apply omv; rfl; rfl
  apply OL.op; exact Guard.none; rfl; rfl; apply Pev.len_slice; rfl; exact yes; rfl
  apply obn; rfl; rfl; rfl; apply Bin.gtr
  apply OL.nil
  with_reducible apply At.next
  (refine W.cond rfl (fun hb => ?_) (fun hb => ?_)) <;> (try (simp only [Bool.and_eq_true, Bool.or_eq_true, Bool.not_eq_true', Bool.and_eq_false_iff, Bool.or_eq_false_iff, Bool.not_eq_false', decide_eq_true_eq, decide_eq_false_iff_not, Int.not_lt, Int.not_le] at hb)) <;> (try (exfalso; first | omega | exact hb trivial | contradiction))
  apply W.seq
  apply W.reg
  apply oas; rfl; rfl
  apply oas; rfl; rfl
  apply OL.nil
  with_reducible apply At.next
  apply W.ret
  with_reducible apply At.then_ret
  ((with_reducible apply At.fin2); rfl; rfl; rfl; intro w' hw')
  exact ⟨rfl, by (exact hw'.toExt (by (repeat (first | exact List.Mem.head _ | apply List.Mem.tail))) (fun k hk => by (focus ((try simp only [add_block]); (repeat (first | exact NotOwned.nil | exact hno _ (by omega) | refine NotOwned.nothing ?_ | refine NotOwned.nds (hlow _ (by omega)) ?_ | refine NotOwned.mapS (by omega) ?_ | apply NotOwned.bif | refine NotOwned.blk (by omega) ?_ | refine NotOwned.row (by omega) ?_ | refine NotOwned.grid (by assumption) (by omega) ?_ | refine NotOwned.pile (by omega) ?_)); done))))⟩
end Go.Proofs.YtaponemcbnnebaaDoor.ki
