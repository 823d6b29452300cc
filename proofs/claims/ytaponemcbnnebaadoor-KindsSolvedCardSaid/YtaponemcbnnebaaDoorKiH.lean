/- The walk of the reference's kinded. Conditions: none. -/
import Derived.Test.YtaponemcbnnebaaDoorKiG
namespace Go.Ki
open Go.Eng Go.RowKit
set_option linter.unusedVariables false
set_option linter.unusedSimpArgs false
theorem vsR_get {ds : List DS} {flat : List Int} {i j : Nat} {d : DS} (hd : ds[i]? = some d) (hj : j < d.params) : (vsR ds flat i)[j]? = some (flat.getD (bsum ds i + j) 0) := by
  unfold vsR
  have : ds.getD i ⟨⟨#[]⟩, 0, none, 0, 0⟩ = d := by simp [List.getD, hd]
  rw [this]
  simp [hj]
theorem vsR_len {ds : List DS} {flat : List Int} {i : Nat} {d : DS} (hd : ds[i]? = some d) : (vsR ds flat i).length = d.params := by
  unfold vsR
  have : ds.getD i ⟨⟨#[]⟩, 0, none, 0, 0⟩ = d := by simp [List.getD, hd]
  rw [this]
  simp
theorem reqR_var {ds : List DS} {flat : List Int} {i j : Nat} {d : DS} {nm : ByteArray} {ts : List Ty} {kd : Int} (hd : ds[i]? = some d) (hj : j < d.params) : req (pkR ds flat) (vsR ds flat i) (.mk 0 nm (j : Int) ts) kd = decide (flat.getD (bsum ds i + j) 0 = kd) := by
  rw [req]
  simp only [if_true, vsR_len hd, Int.toNat_natCast, vsR_get hd hj]
  simp [hj]
theorem reqR_novar {ds : List DS} {flat : List Int} {i : Nat} {d : DS} {nm : ByteArray} {ts : List Ty} {v kd : Int} (hd : ds[i]? = some d) (hj : (d.params : Int) ≤ v) : req (pkR ds flat) (vsR ds flat i) (.mk 0 nm v ts) kd = false := by
  rw [req]
  simp [vsR_len hd, show ¬ v < (d.params : Int) by omega]
/-- the kinds of the parameters of the data type k -/
def lR (ds : List DS) (flat : List Int) (k p : Nat) : List Int := (List.range p).map fun s => flat.getD (bsum ds k + s) 0
theorem reqR_con {ds : List DS} {flat : List Int} {i k : Nat} {d : DS} {nm : ByteArray} {ts : List Ty} {v kd : Int} (hk : ds[k]? = some d) (he : psF [] nm (ds.drop k) ((fiOf ds 0).drop k) = psF [] nm ds (fiOf ds 0)) (hn : d.nm = nm) : req (pkR ds flat) (vsR ds flat i) (.mk 1 nm v ts) kd = (decide (d.params = ts.length) && decide (kd = 0) && reqs (pkR ds flat) (vsR ds flat i) ts (lR ds flat k d.params)) := by
  have hkl := (List.getElem?_eq_some_iff.1 hk).1
  rw [psF_get hk (fiOf_get hkl), if_pos hn] at he
  rw [req]
  have : pkR ds flat nm = some (lR ds flat k d.params) := by
    unfold pkR lR
    rw [← he]
    simp
  simp [this, lR]
theorem reqR_nocon {ds : List DS} {flat : List Int} {i : Nat} {nm : ByteArray} {ts : List Ty} {v kd : Int} (he : psF [] nm (ds.drop ds.length) ((fiOf ds 0).drop ds.length) = psF [] nm ds (fiOf ds 0)) : req (pkR ds flat) (vsR ds flat i) (.mk 1 nm v ts) kd = false := by
  rw [psF_end (Nat.le_refl _)] at he
  rw [req]
  simp [pkR, ← he, hasB]
theorem lR_get {ds : List DS} {flat : List Int} {k p j : Nat} (h : j < p) : (lR ds flat k p)[j]? = some (flat.getD (bsum ds k + j) 0) := by simp [lR, h]
end Go.Ki
namespace Go.Proofs.YtaponemcbnnebaaDoor.ki
open Go.RowKit Go.Eng Go.Ki
set_option linter.unusedVariables false
set_option linter.unusedSimpArgs false
set_option maxRecDepth 100000
theorem kinded_calls (qd qf : Option Addr) (cd cf i : Nat) (ds : List DS) (flat : List Int) (hi : i < ds.length) (hcap : ds.length ≤ cd) (hl : ds.length ≤ 4096) (hp : ∀ d ∈ ds, d.params ≤ 4096) (hlen : flat.length = bsum ds ds.length) :
    ∀ (m : Nat) (p : Pa) (ro : Bool) (kd : Int) (w : World), p.t.sz ≤ m → TyC w w.heap.size p.t (tcc p) → wf p.t ro = true → SlAt w w.heap.size qd (cat dc ds) → SlAt w w.heap.size qf (ins flat) →
      Calls Tryd.prog 26 [.slice qd ds.length cd, .slice qf flat.length cf, .int .i64 (i : Int), .agg (tcc p).toArray, .int .i64 kd].toArray w fun e w' => e = .returned (.bool (req (pkR ds flat) (vsR ds flat i) p.t kd)) ∧ Ext w w' := by
  intro m
  induction m with
  | zero =>
    intro p ro kd w hm
    obtain ⟨⟨k, nm, v, ts⟩, q, cap⟩ := p
    simp only [Ty.sz] at hm
    omega
  | succ m ih =>
  intro p ro kd w hm ht hwf hd hf
  obtain ⟨ps, hpt, hpa, hpty⟩ := TyC.parts ht
  obtain ⟨hi1, hi2, hi3⟩ := TyC.ints ht
  obtain ⟨⟨k, nm, v, ts⟩, q, cap⟩ := p
  simp only [Ty.args] at hpt
  subst hpt
  simp only [tcc, Ty.kind, Ty.name, Ty.var, Ty.args] at ht hi1 hi2 hi3 hm hwf ⊢
  obtain ⟨hk, hkr, hv, hmany, hws⟩ := wf_un hwf
  rw [List.length_map] at hi3 hmany
  simp only [List.length_map]
  have hfac : ∀ (H : List Eng.Item) (w2 : World), (∀ k, k < w.heap.size → NotOwned H k) → Cls H [w] w2 → SlAt w2 w2.heap.size qd (cat dc ds) ∧ SlAt w2 w2.heap.size qf (ins flat) ∧ ∀ x ∈ ps, TyC w2 w2.heap.size x.t (tcc x) := fun H w2 hno hw2 =>
    have hbel := hw2.below (s := w) (.head _) (Nat.le_refl _) hno
    have hsz := (hw2.kp w (.head _)).size
    ⟨hd.keep hbel hsz, hf.keep hbel hsz, fun x hx => TyC.keep hbel hsz (hpty x hx)⟩
  have hkid : ∀ {j : Nat} {x : Pa} (ro : Bool) (kd : Int) (H : List Eng.Item) (w2 : World), ps[j]? = some x → wf x.t ro = true → (∀ k, k < w.heap.size → NotOwned H k) → Cls H [w] w2 →
      Calls Tryd.prog 26 [.slice qd ds.length cd, .slice qf flat.length cf, .int .i64 (i : Int), .agg (tcc x).toArray, .int .i64 kd].toArray w2 fun e w' => e = .returned (.bool (req (pkR ds flat) (vsR ds flat i) x.t kd)) ∧ Cls H [w] w' := fun {j x} ro kd H w2 hx hwx hno hw2 => by
    obtain ⟨g1, g2, g3⟩ := hfac H w2 hno hw2
    have hmem := List.mem_of_getElem? hx
    have hsz : x.t.sz ≤ m := by
      have : (ps.map Pa.t)[j]? = some x.t := by simp [hx]
      have := Ty.sz_get this
      simp only [Ty.sz] at hm
      omega
    exact (ih x ro kd w2 hsz (g3 x hmem) hwx g1 g2).mono fun e w3 h => ⟨h.1, hw2.ext h.2⟩
  have hbase : ∀ (j : Nat) (H : List Eng.Item) (w2 : World), j ≤ ds.length → (∀ k, k < w.heap.size → NotOwned H k) → Cls H [w] w2 →
      Calls Tryd.prog 35 #[.slice qd ds.length cd, .int .i64 (j : Int)] w2 fun e w' => e = .returned (.int .i64 (bsum ds j : Int)) ∧ Cls H [w] w' := fun j H w2 hj hno hw2 =>
    (base_calls qd cd j ds w2 hj hcap hl hp (hfac H w2 hno hw2).1).mono fun e w3 h => ⟨h.1, hw2.ext h.2⟩
  have hwk : ∀ {j : Nat} {x : Pa}, ps[j]? = some x → wf x.t ((decide (k = 2) && decide (j = 1)) || decide (k = 3) || (decide (k = 5) && decide (j = 1))) = true := fun {j x} hx => by
    have : (ps.map Pa.t)[j]? = some x.t := by simp [hx]
    have := wfs_get hws this
    rwa [Nat.zero_add] at this
  have hce : ∀ {i : Nat} {p : Pa}, ps[i]? = some p → ∃ a, q = some a ∧ a.block < w.heap.size ∧ CellsAt w (a.add (i * 4)) [.int .i64 p.t.kind, .string p.t.name, .int .i64 p.t.var, .slice p.q p.t.args.length p.cap] := fun {i p} hp => by
    obtain ⟨a, p', rfl, hab, hp', hcp⟩ := SlAt.elem hpa tcc_len (by decide) (List.getElem?_eq_some_iff.1 hp).1
    rw [hp] at hp'
    obtain rfl := Option.some.inj hp'
    exact ⟨a, rfl, hab, hcp⟩
  refine enter Tryd.func26 rfl Tryd.ntmps26 rfl (Cls.start w) ?_
  (simp only [argEnv, Nat.zero_add, Nat.reduceAdd])
  apply W.seq
  apply W.reg
  apply OL.box; rfl; rfl; exact CellsL.agg; (intro bk hbk; simp only [AllLe, and_true] at hbk)
  apply oas; rfl; rfl
  apply OL.nil
  with_reducible apply At.next
  apply W.seq
  apply W.seq
  apply W.reg
  apply ofa; rfl; rfl; rfl
  apply old; rfl; rfl; exact .head _; rfl; rfl
  apply OL.nil
  with_reducible apply At.next
  apply W.block
  apply W.seq
  apply W.reg
  apply obn; rfl; rfl; rfl; apply Bin.eql
  apply oas; rfl; rfl
  apply OL.nil
  with_reducible apply At.next
  (refine W.cond rfl (fun h0 => ?_) (fun h0 => ?_)) <;> (try (simp only [Bool.and_eq_true, Bool.or_eq_true, Bool.not_eq_true', Bool.and_eq_false_iff, Bool.or_eq_false_iff, Bool.not_eq_false', decide_eq_true_eq, decide_eq_false_iff_not, Int.not_lt, Int.not_le] at h0)) <;> (try (exfalso; first | omega | exact h0 trivial | contradiction))
  · subst h0
    clear hce hwk hkid
    obtain ⟨ad, d, rfl, hadb, hdi, hcd⟩ := SlAt.elem hd dlen (by decide) hi
    simp only [dc] at hcd
    have hdp := hp d (List.mem_of_getElem? hdi)
    by_cases hvd : v < (d.params : Int)
    · obtain ⟨j, rfl⟩ := Int.eq_ofNat_of_zero_le (show 0 ≤ v by omega)
      have hbs := bsum_succ hdi
      have hbm := bsum_mono (ds := ds) (i := i + 1) (j := ds.length) (by omega) (Nat.le_refl _)
      have hbl := bsum_le (Nat.le_refl ds.length) hp
      obtain ⟨af, rfl, hafb, hcf⟩ := hf (by rw [ins_length]; omega)
      rw [reqR_var hdi (by omega)]
      have hix : (bsum ds i + j) < flat.length := by omega
      have hcx : w.cell? (af.add (((bsum ds i : Int) + (j : Int)).toNat * 1)) = some (.int .i64 (flat.getD (bsum ds i + j) 0)) := by
        have : ((bsum ds i : Int) + (j : Int)).toNat * 1 = bsum ds i + j := by omega
        rw [this]
        exact hcf _ _ (by simp [ins, List.getD, List.getElem?_eq_getElem hix])
      clear hcf
      apply W.seq
      apply W.regd0; decide +kernel; kernel_rfl; decide +kernel; exact fun w hw => hw.drew
      apply qfa; rfl; rfl; rfl
      apply qld; rfl; rfl; exact .head _; rfl; rfl
      apply qmv; rfl; rfl
      apply qmv; rfl; rfl
      apply QL.op; exact Guard.none; rfl; rfl; apply Pev.idx; rfl; exact yes; rfl; exact yes; rfl; rfl; intro hcond; omega
      apply QL.op; exact Guard.none; rfl; rfl; apply Pev.fldA; rfl; exact yes; rfl
      apply QL.op; exact Guard.none; rfl; rfl; apply Pev.load_kept; rfl; exact yes; exact .head _; rfl; intro hcond; apply CellsAt.at_ (by assumption) rfl; intro hcond; (simp only [add_block]; assumption); intro hcond; simp only [add_block]; refine NotOwned.blk (by omega) ?_; exact NotOwned.nil
      apply qbn; rfl; rfl; rfl; apply Bin.lss
      apply qmv; rfl; rfl
      apply QL.op; exact Guard.yes rfl rfl; rfl; rfl; apply Pev.move; rfl; exact yes
      apply QL.op; exact Guard.yes rfl rfl; rfl; rfl; apply Pev.move; rfl; exact yes
      apply QL.op; exact Guard.yes rfl rfl; rfl; rfl; apply Pev.move; rfl; exact yes
      (((first | (with_reducible apply OL.op) | (with_reducible apply QL.op)); ((first | exact Guard.none | exact Guard.yes rfl rfl | exact Guard.no rfl rfl | exact Guard.cyes rfl rfl | exact Guard.cno rfl rfl)); rfl; rfl); (exact Pev.call rfl (by (repeat (first | exact Args.nil | (apply Args.cons rfl; ((first | exact fun _ => rfl | exact fun h => h | (intro h; simp_all; done))))))) (fun _ w2 hw2 => hbase i _ w2 (by omega) (fun k hk => by (focus ((try simp only [add_block]); (repeat (first | exact NotOwned.nil | exact hno _ (by omega) | refine NotOwned.nothing ?_ | refine NotOwned.nds (hlow _ (by omega)) ?_ | refine NotOwned.mapS (by omega) ?_ | apply NotOwned.bif | refine NotOwned.blk (by omega) ?_ | refine NotOwned.row (by omega) ?_ | refine NotOwned.grid (by assumption) (by omega) ?_ | refine NotOwned.pile (by omega) ?_)); done))) hw2)))
      apply QL.op; exact Guard.yes rfl rfl; rfl; rfl; apply Pev.fld; rfl; exact yes; rfl
      apply QL.op; exact Guard.yes rfl rfl; rfl; rfl; apply Pev.load_blk; rfl; exact fun h => h; exact .head _; rfl; rfl
      apply QL.op; exact Guard.yes rfl rfl; rfl; rfl; apply Pev.bin; rfl; exact fun h => h; rfl; exact fun h => h; intro hcond; apply Bin.add_in; omega
      apply QL.op; exact Guard.yes rfl rfl; rfl; rfl; apply Pev.idx; rfl; exact fun h => h; rfl; exact fun h => h; rfl; rfl; intro hcond; omega
      apply QL.op; exact Guard.yes rfl rfl; rfl; rfl; apply Pev.load_kept; rfl; exact fun h => h; exact .head _; rfl; intro hcond; assumption; intro hcond; (rw [add_block]; assumption); intro hcond; simp only [add_block]; refine NotOwned.blk (by omega) ?_; exact NotOwned.nil
      apply QL.op; exact Guard.yes rfl rfl; rfl; rfl; apply Pev.move; rfl; exact yes
      apply QL.op; exact Guard.yes rfl rfl; rfl; rfl; apply Pev.bin; rfl; exact fun h => h; rfl; exact fun h => h; intro hcond; apply Bin.eql
      apply QL.op; exact Guard.none; rfl; rfl; apply Pev.pick_and; rfl; exact yes; rfl; exact fun h => h
      apply qas; rfl; rfl
      apply QL.nil
      with_reducible apply At.next
      apply W.ret
      with_reducible apply At.in_ret
      with_reducible apply At.then_ret
      ((with_reducible apply At.fin1); rfl; rfl; intro w' hw')
      exact ⟨by simp [hvd], by (exact hw'.toExt (by (repeat (first | exact List.Mem.head _ | apply List.Mem.tail))) (fun k hk => by (focus ((try simp only [add_block]); (repeat (first | exact NotOwned.nil | exact hno _ (by omega) | refine NotOwned.nothing ?_ | refine NotOwned.nds (hlow _ (by omega)) ?_ | refine NotOwned.mapS (by omega) ?_ | apply NotOwned.bif | refine NotOwned.blk (by omega) ?_ | refine NotOwned.row (by omega) ?_ | refine NotOwned.grid (by assumption) (by omega) ?_ | refine NotOwned.pile (by omega) ?_)); done))))⟩
    · rw [reqR_novar hdi (by omega)]
      apply W.seq
      apply W.regd0; decide +kernel; kernel_rfl; decide +kernel; exact fun w hw => hw.drew
      apply qfa; rfl; rfl; rfl
      apply qld; rfl; rfl; exact .head _; rfl; rfl
      apply qmv; rfl; rfl
      apply qmv; rfl; rfl
      apply QL.op; exact Guard.none; rfl; rfl; apply Pev.idx; rfl; exact yes; rfl; exact yes; rfl; rfl; intro hcond; omega
      apply QL.op; exact Guard.none; rfl; rfl; apply Pev.fldA; rfl; exact yes; rfl
      apply QL.op; exact Guard.none; rfl; rfl; apply Pev.load_kept; rfl; exact yes; exact .head _; rfl; intro hcond; apply CellsAt.at_ (by assumption) rfl; intro hcond; (simp only [add_block]; assumption); intro hcond; simp only [add_block]; refine NotOwned.blk (by omega) ?_; exact NotOwned.nil
      apply qbn; rfl; rfl; rfl; apply Bin.lss
      apply qmv; rfl; rfl
      apply QL.op; exact Guard.yes rfl rfl; rfl; rfl; apply Pev.move; rfl; exact yes
      apply QL.op; exact Guard.yes rfl rfl; rfl; rfl; apply Pev.move; rfl; exact yes
      apply QL.op; exact Guard.yes rfl rfl; rfl; rfl; apply Pev.move; rfl; exact yes
      apply QL.gateOff; exact Guard.yes rfl rfl; (simp; omega); rfl
      apply QL.op; exact Guard.yes rfl rfl; rfl; rfl; apply Pev.fld; rfl; exact yes; rfl
      apply QL.op; exact Guard.yes rfl rfl; rfl; rfl; apply Pev.load_blk; rfl; exact fun h => h; exact .head _; rfl; rfl
      apply QL.gateOff; exact Guard.yes rfl rfl; (simp; omega); rfl
      apply QL.gateOff; exact Guard.yes rfl rfl; (simp; omega); rfl
      apply QL.gateOff; exact Guard.yes rfl rfl; (simp; omega); rfl
      apply QL.op; exact Guard.yes rfl rfl; rfl; rfl; apply Pev.move; rfl; exact yes
      apply QL.gateOff; exact Guard.yes rfl rfl; (simp; omega); rfl
      apply QL.op; exact Guard.none; rfl; rfl; apply Pev.pick_off; rfl; exact yes; (intro hcond; simp; omega); rfl; exact yes
      apply qas; rfl; rfl
      apply QL.nil
      with_reducible apply At.next
      apply W.ret
      with_reducible apply At.in_ret
      with_reducible apply At.then_ret
      ((with_reducible apply At.fin1); rfl; rfl; intro w' hw')
      exact ⟨rfl, by (exact hw'.toExt (by (repeat (first | exact List.Mem.head _ | apply List.Mem.tail))) (fun k hk => by (focus ((try simp only [add_block]); (repeat (first | exact NotOwned.nil | exact hno _ (by omega) | refine NotOwned.nothing ?_ | refine NotOwned.nds (hlow _ (by omega)) ?_ | refine NotOwned.mapS (by omega) ?_ | apply NotOwned.bif | refine NotOwned.blk (by omega) ?_ | refine NotOwned.row (by omega) ?_ | refine NotOwned.grid (by assumption) (by omega) ?_ | refine NotOwned.pile (by omega) ?_)); done))))⟩
  · apply W.seq
    apply W.reg
    apply obn; rfl; rfl; rfl; apply Bin.eql
    apply oas; rfl; rfl
    apply OL.nil
    with_reducible apply At.next
    (refine W.cond rfl (fun h1 => ?_) (fun h1 => ?_)) <;> (try (simp only [Bool.and_eq_true, Bool.or_eq_true, Bool.not_eq_true', Bool.and_eq_false_iff, Bool.or_eq_false_iff, Bool.not_eq_false', decide_eq_true_eq, decide_eq_false_iff_not, Int.not_lt, Int.not_le] at h1)) <;> (try (exfalso; first | omega | exact h1 trivial | contradiction))
    · subst h1
      apply W.seq
      apply W.seq
      apply W.reg
      apply omv; rfl; rfl
      apply OL.op; exact Guard.none; rfl; rfl; apply Pev.len_slice; rfl; exact yes; rfl
      apply omv; rfl; rfl
      apply OL.nil
      with_reducible apply At.next
      apply W.block
      revert bk
      intro bt hbt
      refine W.loop (G := Nat) (fun k => k ≤ ds.length ∧ psF [] nm (ds.drop k) ((fiOf ds 0).drop k) = psF [] nm ds (fiOf ds 0)) (fun k => ds.length - k)
        (fun k => [(0, true, .slice qd ds.length cd), (1, true, .slice qf flat.length cf), (2, true, .int .i64 (i : Int)), (4, true, .int .i64 kd), (8, true, .pointer (some ⟨bt, 0, none⟩)), (42, true, .slice qd ds.length cd), (43, true, .int .i64 (ds.length : Int)), (44, true, .int .i64 (k : Int))])
        (fun _ => Cls [blk bt 24 [.int .i64 1, .string nm, .int .i64 v, .slice q ps.length cap]] [w]) 0 ⟨by omega, rfl⟩ (by (repeat (first | exact Sub.nil | apply Sub.cons rfl | (refine Sub.cons_eq rfl (congrArg (Value.int .i64) (by first | omega | (simp only; omega))) ?_)))) (fun w' hw' => hw') ?_
      rintro k ⟨hkl, hrest⟩
      apply W.seq
      apply W.reg
      apply obn; rfl; rfl; rfl; apply Bin.lss
      apply OL.nil
      with_reducible apply At.next
      apply W.seq
      (refine W.cond rfl (fun hlt => ?_) (fun hlt => ?_)) <;> (try (simp only [Bool.and_eq_true, Bool.or_eq_true, Bool.not_eq_true', Bool.and_eq_false_iff, Bool.or_eq_false_iff, Bool.not_eq_false', decide_eq_true_eq, decide_eq_false_iff_not, Int.not_lt, Int.not_le] at hlt)) <;> (try (exfalso; first | omega | exact hlt trivial | contradiction))
      · have hkl2 : k < ds.length := by omega
        obtain ⟨ad, d, rfl, hadb, hdi, hcd⟩ := SlAt.elem hd dlen (by decide) hkl2
        simp only [dc] at hcd
        have hdp := hp d (List.mem_of_getElem? hdi)
        apply W.skip
        with_reducible apply At.next
        apply W.seq
        apply W.block
        apply W.seq
        apply W.reg
        apply omv; rfl; rfl
        apply OL.op; exact Guard.none; rfl; rfl; apply Pev.idx; rfl; exact yes; rfl; exact yes; rfl; rfl; intro hcond; omega
        apply OL.op; exact Guard.none; rfl; rfl; apply Pev.load_keptA; rfl; exact yes; exact .head _; rfl; intro hcond; assumption; rfl; intro hcond; (rw [add_block]; assumption); intro hcond; simp only [add_block]; refine NotOwned.blk (by omega) ?_; exact NotOwned.nil
        apply OL.alloc; rfl; rfl; exact CellsL.agg; (intro bk hbk; simp only [AllLe, and_true] at hbk)
        apply oas; rfl; rfl
        apply OL.storeB; rfl; rfl; exact CellsL.agg; rfl; rfl; rfl; apply Swap.z; apply Put.here; apply Over.cons; apply Over.cons; apply Over.cons; apply Over.nil
        apply OL.nil
        with_reducible apply At.next
        apply W.seq
        apply W.seq
        apply W.reg
        apply ofa; rfl; rfl; rfl
        apply old; rfl; rfl; exact .head _; rfl; rfl
        apply ofa; rfl; rfl; rfl
        apply old; rfl; rfl; exact .tail _ (.head _); rfl; rfl
        apply obn; rfl; rfl; rfl; apply Bin.str_neq
        apply OL.nil
        with_reducible apply At.next
        refine W.cond rfl (fun hb => ?_) (fun hb => ?_)
        · have e : ¬ d.nm = nm := by simpa using hb
          rw [psF_get hdi (fiOf_get hkl2), if_neg e] at hrest
          apply W.exit
          with_reducible apply At.then_exit
          with_reducible apply At.in_exit
          with_reducible apply At.next
          apply W.reg
          apply obn; rfl; rfl; rfl; apply Bin.add_in; omega
          apply omv; rfl; rfl
          apply OL.nil
          exact At.again (k + 1) ⟨by omega, hrest⟩ (by omega) (by (repeat (first | exact Sub.nil | apply Sub.cons rfl | (refine Sub.cons_eq rfl (congrArg (Value.int .i64) (by first | omega | (simp only; omega))) ?_)))) (fun w' hw' => hw'.thin (by (repeat (first | exact Thin.nil | exact Thin.same | apply Thin.keep | (refine Thin.blk (by assumption) ?_) | (refine Thin.blk (by simp only [AllLe, and_true]; omega) ?_)))))
        · have e : d.nm = nm := by simpa using hb
          rw [reqR_con hdi hrest e, List.length_map]
          apply W.skip
          with_reducible apply At.next
          apply W.seq
          apply W.seq
          apply W.reg
          apply ofa; rfl; rfl; rfl
          apply old; rfl; rfl; exact .head _; rfl; rfl
          apply ofa; rfl; rfl; rfl
          apply old; rfl; rfl; exact .tail _ (.head _); rfl; rfl
          apply OL.op; exact Guard.none; rfl; rfl; apply Pev.len_slice; rfl; exact yes; rfl
          apply obn; rfl; rfl; rfl; apply Bin.neq
          apply omv; rfl; rfl
          apply OL.op; exact Guard.no rfl rfl; rfl; rfl; apply Pev.move; rfl; exact yes
          apply OL.op; exact Guard.no rfl rfl; rfl; rfl; apply Pev.bin; rfl; exact fun h => h; rfl; exact yes; intro hcond; apply Bin.neq
          apply OL.op; exact Guard.none; rfl; rfl; apply Pev.pick_or; rfl; exact yes; rfl; exact fun h => h
          apply OL.nil
          with_reducible apply At.next
          refine W.cond rfl (fun hb2 => ?_) (fun hb2 => ?_)
          · apply W.seq
            apply W.reg
            apply oas; rfl; rfl
            apply OL.nil
            with_reducible apply At.next
            apply W.ret
            with_reducible apply At.then_ret
            with_reducible apply At.in_ret
            with_reducible apply At.then_ret
            with_reducible apply At.then_ret
            with_reducible apply At.in_ret
            with_reducible apply At.then_ret
            with_reducible apply At.in_ret
            with_reducible apply At.then_ret
            ((with_reducible apply At.fin1); rfl; rfl; intro w' hw')
            refine ⟨?_, by (exact hw'.toExt (by (repeat (first | exact List.Mem.head _ | apply List.Mem.tail))) (fun k hk => by (focus ((try simp only [add_block]); (repeat (first | exact NotOwned.nil | exact hno _ (by omega) | refine NotOwned.nothing ?_ | refine NotOwned.nds (hlow _ (by omega)) ?_ | refine NotOwned.mapS (by omega) ?_ | apply NotOwned.bif | refine NotOwned.blk (by omega) ?_ | refine NotOwned.row (by omega) ?_ | refine NotOwned.grid (by assumption) (by omega) ?_ | refine NotOwned.pile (by omega) ?_)); done))))⟩
            rw [Bool.and_assoc]
            congr 2
            rw [eq_comm, Bool.and_eq_false_imp]
            intro h1
            simp at hb2 h1
            simp
            intro h2
            omega
          · obtain ⟨hpl, hk0⟩ : d.params = ps.length ∧ kd = 0 := by simp at hb2; omega
            subst hk0
            rw [hpl]
            simp only [decide_true, Bool.true_and]
            have hbs := bsum_succ hdi
            have hbm := bsum_mono (ds := ds) (i := k + 1) (j := ds.length) (by omega) (Nat.le_refl _)
            have hbl := bsum_le (Nat.le_refl ds.length) hp
            apply W.skip
            with_reducible apply At.next
            apply W.seq
            apply W.seq
            apply W.reg
            apply ofa; rfl; rfl; rfl
            apply old; rfl; rfl; exact .tail _ (.head _); rfl; rfl
            apply OL.op; exact Guard.none; rfl; rfl; apply Pev.len_slice; rfl; exact yes; rfl
            apply omv; rfl; rfl
            apply OL.nil
            with_reducible apply At.next
            apply W.block
            revert bk
            intro bd hbd
            have hbs2 : bsum ds k + ps.length ≤ flat.length := by omega
            refine W.loop (G := Nat) (fun j => j ≤ ps.length ∧ reqs (pkR ds flat) (vsR ds flat i) ((ps.map Pa.t).drop j) ((lR ds flat k ps.length).drop j) = reqs (pkR ds flat) (vsR ds flat i) (ps.map Pa.t) (lR ds flat k ps.length)) (fun j => ps.length - j)
              (fun j => [(0, true, .slice (some ad) ds.length cd), (1, true, .slice qf flat.length cf), (2, true, .int .i64 (i : Int)), (11, true, .int .i64 (k : Int)), (65, true, .slice q ps.length cap), (66, true, .int .i64 (ps.length : Int)), (67, true, .int .i64 (j : Int))])
              (fun _ => Cls [] [w]) 0 ⟨by omega, rfl⟩ (by (repeat (first | exact Sub.nil | apply Sub.cons rfl | (refine Sub.cons_eq rfl (congrArg (Value.int .i64) (by first | omega | (simp only; omega))) ?_)))) (fun w' hw' => hw'.thin (by (repeat (first | exact Thin.nil | exact Thin.same | apply Thin.keep | (refine Thin.blk (by assumption) ?_) | (refine Thin.blk (by simp only [AllLe, and_true]; omega) ?_))))) ?_
            rintro j ⟨hj, hrq⟩
            apply W.seq
            apply W.reg
            apply obn; rfl; rfl; rfl; apply Bin.lss
            apply OL.nil
            with_reducible apply At.next
            apply W.seq
            (refine W.cond rfl (fun hlt2 => ?_) (fun hlt2 => ?_)) <;> (try (simp only [Bool.and_eq_true, Bool.or_eq_true, Bool.not_eq_true', Bool.and_eq_false_iff, Bool.or_eq_false_iff, Bool.not_eq_false', decide_eq_true_eq, decide_eq_false_iff_not, Int.not_lt, Int.not_le] at hlt2)) <;> (try (exfalso; first | omega | exact hlt2 trivial | contradiction))
            · have hjl : j < ps.length := by omega
              obtain ⟨x, hx⟩ : ∃ x, ps[j]? = some x := ⟨_, List.getElem?_eq_getElem hjl⟩
              obtain ⟨a, rfl, hab, hcx⟩ := hce hx
              have hwx := hwk hx
              rw [reqs_drop _ _ (t := x.t) (k := flat.getD (bsum ds k + j) 0) (by simp [hx]) (lR_get hjl)] at hrq
              obtain ⟨af, rfl, hafb, hcf⟩ := hf (by rw [ins_length]; omega)
              have hcv : w.cell? (af.add (((bsum ds k : Int) + (j : Int)).toNat * 1)) = some (.int .i64 (flat.getD (bsum ds k + j) 0)) := by
                have : ((bsum ds k : Int) + (j : Int)).toNat * 1 = bsum ds k + j := by omega
                rw [this]
                exact hcf _ _ (by simp [ins, List.getD, List.getElem?_eq_getElem (show bsum ds k + j < flat.length by omega)])
              clear hcf
              apply W.skip
              with_reducible apply At.next
              apply W.seq
              apply W.block
              apply W.seq
              apply W.reg
              apply omv; rfl; rfl
              apply OL.op; exact Guard.none; rfl; rfl; apply Pev.idx; rfl; exact yes; rfl; exact yes; rfl; rfl; intro hcond; omega
              apply OL.op; exact Guard.none; rfl; rfl; apply Pev.load_keptA; rfl; exact yes; exact .head _; rfl; intro hcond; assumption; rfl; intro hcond; (rw [add_block]; assumption); intro hcond; exact NotOwned.nil
              apply OL.alloc; rfl; rfl; exact CellsL.agg; (intro bk hbk; simp only [AllLe, and_true] at hbk)
              apply oas; rfl; rfl
              apply OL.storeB; rfl; rfl; exact CellsL.agg; rfl; rfl; rfl; apply Swap.z; apply Put.here; apply Over.cons; apply Over.cons; apply Over.cons; apply Over.cons; apply Over.nil
              apply OL.nil
              with_reducible apply At.next
              apply W.seq
              apply W.regd0; decide +kernel; kernel_rfl; decide +kernel; exact fun w hw => hw.drew
              apply qmv; rfl; rfl
              apply qmv; rfl; rfl
              apply qmv; rfl; rfl
              apply QL.op; exact Guard.none; rfl; rfl; apply Pev.load_blkA; rfl; exact yes; exact .head _; rfl; apply Take.succ; apply Take.succ; apply Take.succ; apply Take.succ; apply Take.zero
              apply qmv; rfl; rfl
              apply qmv; rfl; rfl
              apply qmv; rfl; rfl
              (((first | (with_reducible apply OL.op) | (with_reducible apply QL.op)); ((first | exact Guard.none | exact Guard.yes rfl rfl | exact Guard.no rfl rfl | exact Guard.cyes rfl rfl | exact Guard.cno rfl rfl)); rfl; rfl); (exact Pev.call rfl (by (repeat (first | exact Args.nil | (apply Args.cons rfl; ((first | exact fun _ => rfl | exact fun h => h | (intro h; simp_all; done))))))) (fun _ w2 hw2 => hbase k _ w2 (by omega) (fun k hk => by (focus ((try simp only [add_block]); (repeat (first | exact NotOwned.nil | exact hno _ (by omega) | refine NotOwned.nothing ?_ | refine NotOwned.nds (hlow _ (by omega)) ?_ | refine NotOwned.mapS (by omega) ?_ | apply NotOwned.bif | refine NotOwned.blk (by omega) ?_ | refine NotOwned.row (by omega) ?_ | refine NotOwned.grid (by assumption) (by omega) ?_ | refine NotOwned.pile (by omega) ?_)); done))) hw2)))
              apply qmv; rfl; rfl
              apply qbn; rfl; rfl; rfl; apply Bin.add_in; omega
              apply QL.op; exact Guard.none; rfl; rfl; apply Pev.idx; rfl; exact yes; rfl; exact yes; rfl; rfl; intro hcond; omega
              apply QL.op; exact Guard.none; rfl; rfl; apply Pev.load_kept; rfl; exact yes; exact .head _; rfl; intro hcond; assumption; intro hcond; (rw [add_block]; assumption); intro hcond; simp only [add_block]; refine NotOwned.blk (by omega) ?_; exact NotOwned.nil
              (((first | (with_reducible apply OL.op) | (with_reducible apply QL.op)); ((first | exact Guard.none | exact Guard.yes rfl rfl | exact Guard.no rfl rfl | exact Guard.cyes rfl rfl | exact Guard.cno rfl rfl)); rfl; rfl); (exact Pev.call rfl (by (repeat (first | exact Args.nil | (apply Args.cons rfl; ((first | exact fun _ => rfl | exact fun h => h | (intro h; simp_all; done))))))) (fun _ w2 hw2 => hkid _ _ _ w2 hx hwx (fun k hk => by (focus ((try simp only [add_block]); (repeat (first | exact NotOwned.nil | exact hno _ (by omega) | refine NotOwned.nothing ?_ | refine NotOwned.nds (hlow _ (by omega)) ?_ | refine NotOwned.mapS (by omega) ?_ | apply NotOwned.bif | refine NotOwned.blk (by omega) ?_ | refine NotOwned.row (by omega) ?_ | refine NotOwned.grid (by assumption) (by omega) ?_ | refine NotOwned.pile (by omega) ?_)); done))) hw2)))
              apply QL.op; exact Guard.none; rfl; rfl; apply Pev.not; rfl; exact yes
              apply QL.nil
              with_reducible apply At.next
              refine W.cond rfl (fun hb3 => ?_) (fun hb3 => ?_)
              · have hb4 : req (pkR ds flat) (vsR ds flat i) x.t (flat.getD (bsum ds k + j) 0) = false := by simpa using hb3
                rw [hb4, Bool.false_and] at hrq
                apply W.seq
                apply W.reg
                apply oas; rfl; rfl
                apply OL.nil
                with_reducible apply At.next
                apply W.ret
                with_reducible apply At.in_ret
                with_reducible apply At.then_ret
                with_reducible apply At.then_ret
                with_reducible apply At.in_ret
                with_reducible apply At.then_ret
                with_reducible apply At.in_ret
                with_reducible apply At.then_ret
                with_reducible apply At.then_ret
                with_reducible apply At.in_ret
                with_reducible apply At.then_ret
                with_reducible apply At.in_ret
                with_reducible apply At.then_ret
                ((with_reducible apply At.fin1); rfl; rfl; intro w' hw')
                exact ⟨by rw [← hrq], by (exact hw'.toExt (by (repeat (first | exact List.Mem.head _ | apply List.Mem.tail))) (fun k hk => by (focus ((try simp only [add_block]); (repeat (first | exact NotOwned.nil | exact hno _ (by omega) | refine NotOwned.nothing ?_ | refine NotOwned.nds (hlow _ (by omega)) ?_ | refine NotOwned.mapS (by omega) ?_ | apply NotOwned.bif | refine NotOwned.blk (by omega) ?_ | refine NotOwned.row (by omega) ?_ | refine NotOwned.grid (by assumption) (by omega) ?_ | refine NotOwned.pile (by omega) ?_)); done))))⟩
              · have hb4 : req (pkR ds flat) (vsR ds flat i) x.t (flat.getD (bsum ds k + j) 0) = true := by simpa using hb3
                rw [hb4, Bool.true_and] at hrq
                apply W.skip
                with_reducible apply At.in_normal
                with_reducible apply At.next
                apply W.reg
                apply obn; rfl; rfl; rfl; apply Bin.add_in; omega
                apply omv; rfl; rfl
                apply OL.nil
                exact At.again (j + 1) ⟨by omega, hrq⟩ (by omega) (by (repeat (first | exact Sub.nil | apply Sub.cons rfl | (refine Sub.cons_eq rfl (congrArg (Value.int .i64) (by first | omega | (simp only; omega))) ?_)))) (fun w' hw' => hw'.thin (by (repeat (first | exact Thin.nil | exact Thin.same | apply Thin.keep | (refine Thin.blk (by assumption) ?_) | (refine Thin.blk (by simp only [AllLe, and_true]; omega) ?_)))))
            · rw [reqs_end _ _ (by simp; omega)] at hrq
              apply W.exit
              with_reducible apply At.then_exit
              with_reducible apply At.then_exit
              with_reducible apply At.in_exit
              with_reducible apply At.next
              apply W.seq
              apply W.reg
              apply oas; rfl; rfl
              apply OL.nil
              with_reducible apply At.next
              apply W.ret
              with_reducible apply At.in_ret
              with_reducible apply At.then_ret
              with_reducible apply At.then_ret
              with_reducible apply At.in_ret
              with_reducible apply At.then_ret
              with_reducible apply At.in_ret
              with_reducible apply At.then_ret
              ((with_reducible apply At.fin1); rfl; rfl; intro w' hw')
              exact ⟨by rw [← hrq], by (exact hw'.toExt (by (repeat (first | exact List.Mem.head _ | apply List.Mem.tail))) (fun k hk => by (focus ((try simp only [add_block]); (repeat (first | exact NotOwned.nil | exact hno _ (by omega) | refine NotOwned.nothing ?_ | refine NotOwned.nds (hlow _ (by omega)) ?_ | refine NotOwned.mapS (by omega) ?_ | apply NotOwned.bif | refine NotOwned.blk (by omega) ?_ | refine NotOwned.row (by omega) ?_ | refine NotOwned.grid (by assumption) (by omega) ?_ | refine NotOwned.pile (by omega) ?_)); done))))⟩
      · obtain rfl : k = ds.length := by omega
        rw [reqR_nocon hrest]
        apply W.exit
        with_reducible apply At.then_exit
        with_reducible apply At.then_exit
        with_reducible apply At.in_exit
        with_reducible apply At.next
        apply W.seq
        apply W.reg
        apply oas; rfl; rfl
        apply OL.nil
        with_reducible apply At.next
        apply W.ret
        with_reducible apply At.in_ret
        with_reducible apply At.then_ret
        ((with_reducible apply At.fin1); rfl; rfl; intro w' hw')
        exact ⟨rfl, by (exact hw'.toExt (by (repeat (first | exact List.Mem.head _ | apply List.Mem.tail))) (fun k hk => by (focus ((try simp only [add_block]); (repeat (first | exact NotOwned.nil | exact hno _ (by omega) | refine NotOwned.nothing ?_ | refine NotOwned.nds (hlow _ (by omega)) ?_ | refine NotOwned.mapS (by omega) ?_ | apply NotOwned.bif | refine NotOwned.blk (by omega) ?_ | refine NotOwned.row (by omega) ?_ | refine NotOwned.grid (by assumption) (by omega) ?_ | refine NotOwned.pile (by omega) ?_)); done))))⟩
    · apply W.seq
      apply W.reg
      apply obn; rfl; rfl; rfl; apply Bin.eql
      apply oas; rfl; rfl
      apply OL.nil
      with_reducible apply At.next
      (refine W.cond rfl (fun h2 => ?_) (fun h2 => ?_)) <;> (try (simp only [Bool.and_eq_true, Bool.or_eq_true, Bool.not_eq_true', Bool.and_eq_false_iff, Bool.or_eq_false_iff, Bool.not_eq_false', decide_eq_true_eq, decide_eq_false_iff_not, Int.not_lt, Int.not_le] at h2)) <;> (try (exfalso; first | omega | exact h2 trivial | contradiction))
      · subst h2
        have hl3 : ps.length = 3 := by simp [manyOf] at hmany; omega
        obtain ⟨p0, p1, p2, rfl⟩ := list3 hl3
        obtain ⟨a, rfl, hab, hc0⟩ := hce (i := 0) rfl
        obtain ⟨a', e1, _, hc1⟩ := hce (i := 1) rfl
        obtain rfl := Option.some.inj e1
        obtain ⟨a', e1, _, hc2⟩ := hce (i := 2) rfl
        obtain rfl := Option.some.inj e1
        have hw0 := hwk (j := 0) rfl
        have hw1 := hwk (j := 1) rfl
        have hw2' := hwk (j := 2) rfl
        clear hce hwk
        apply W.seq
        apply W.reg
        apply omv; rfl; rfl
        apply obn; rfl; rfl; rfl; apply Bin.eql
        apply omv; rfl; rfl
        apply OL.op; exact Guard.yes rfl rfl; rfl; rfl; apply Pev.move; rfl; exact yes
        apply OL.op; exact Guard.yes rfl rfl; rfl; rfl; apply Pev.move; rfl; exact yes
        apply OL.op; exact Guard.yes rfl rfl; rfl; rfl; apply Pev.move; rfl; exact yes
        apply OL.op; exact Guard.yes rfl rfl; rfl; rfl; apply Pev.fld; rfl; exact yes; rfl
        apply OL.op; exact Guard.yes rfl rfl; rfl; rfl; apply Pev.load_blk; rfl; exact fun h => h; exact .head _; rfl; rfl
        apply OL.op; exact Guard.yes rfl rfl; rfl; rfl; apply Pev.idx; rfl; exact fun h => h; rfl; exact yes; rfl; rfl; intro hcond; (simp only [Bool.and_eq_true, Bool.or_eq_true, Bool.not_eq_true', decide_eq_true_eq, decide_eq_false_iff_not] at *; omega)
        apply OL.op; exact Guard.yes rfl rfl; rfl; rfl; apply Pev.load_keptA; rfl; exact fun h => h; exact .head _; rfl; intro hcond; assumption; rfl; intro hcond; assumption; intro hcond; simp only [add_block]; refine NotOwned.blk (by omega) ?_; exact NotOwned.nil
        (((first | (with_reducible apply OL.op) | (with_reducible apply QL.op)); ((first | exact Guard.none | exact Guard.yes rfl rfl | exact Guard.no rfl rfl | exact Guard.cyes rfl rfl | exact Guard.cno rfl rfl)); rfl; rfl); (exact Pev.call rfl (by (repeat (first | exact Args.nil | (apply Args.cons rfl; ((first | exact fun _ => rfl | exact fun h => h | (intro h; simp_all; done))))))) (fun _ w2 hw2 => hkid _ _ _ w2 (j := 0) rfl hw0 (fun k hk => by (focus ((try simp only [add_block]); (repeat (first | exact NotOwned.nil | exact hno _ (by omega) | refine NotOwned.nothing ?_ | refine NotOwned.nds (hlow _ (by omega)) ?_ | refine NotOwned.mapS (by omega) ?_ | apply NotOwned.bif | refine NotOwned.blk (by omega) ?_ | refine NotOwned.row (by omega) ?_ | refine NotOwned.grid (by assumption) (by omega) ?_ | refine NotOwned.pile (by omega) ?_)); done))) hw2)))
        apply OL.op; exact Guard.none; rfl; rfl; apply Pev.pick_and; rfl; exact yes; rfl; exact fun h => h
        apply omv; rfl; rfl
        apply OL.op; exact Guard.yes rfl rfl; rfl; rfl; apply Pev.move; rfl; exact yes
        apply OL.op; exact Guard.yes rfl rfl; rfl; rfl; apply Pev.move; rfl; exact yes
        apply OL.op; exact Guard.yes rfl rfl; rfl; rfl; apply Pev.move; rfl; exact yes
        apply OL.op; exact Guard.yes rfl rfl; rfl; rfl; apply Pev.fld; rfl; exact yes; rfl
        apply OL.op; exact Guard.yes rfl rfl; rfl; rfl; apply Pev.load_blk; rfl; exact fun h => h; exact .head _; rfl; rfl
        apply OL.op; exact Guard.yes rfl rfl; rfl; rfl; apply Pev.idx; rfl; exact fun h => h; rfl; exact yes; rfl; rfl; intro hcond; (simp only [Bool.and_eq_true, Bool.or_eq_true, Bool.not_eq_true', decide_eq_true_eq, decide_eq_false_iff_not] at *; omega)
        apply OL.op; exact Guard.yes rfl rfl; rfl; rfl; apply Pev.load_keptA; rfl; exact fun h => h; exact .head _; rfl; intro hcond; assumption; rfl; intro hcond; assumption; intro hcond; simp only [add_block]; refine NotOwned.blk (by omega) ?_; exact NotOwned.nil
        (((first | (with_reducible apply OL.op) | (with_reducible apply QL.op)); ((first | exact Guard.none | exact Guard.yes rfl rfl | exact Guard.no rfl rfl | exact Guard.cyes rfl rfl | exact Guard.cno rfl rfl)); rfl; rfl); (exact Pev.call rfl (by (repeat (first | exact Args.nil | (apply Args.cons rfl; ((first | exact fun _ => rfl | exact fun h => h | (intro h; simp_all; done))))))) (fun _ w2 hw2 => hkid _ _ _ w2 (j := 1) rfl hw1 (fun k hk => by (focus ((try simp only [add_block]); (repeat (first | exact NotOwned.nil | exact hno _ (by omega) | refine NotOwned.nothing ?_ | refine NotOwned.nds (hlow _ (by omega)) ?_ | refine NotOwned.mapS (by omega) ?_ | apply NotOwned.bif | refine NotOwned.blk (by omega) ?_ | refine NotOwned.row (by omega) ?_ | refine NotOwned.grid (by assumption) (by omega) ?_ | refine NotOwned.pile (by omega) ?_)); done))) hw2)))
        apply OL.op; exact Guard.none; rfl; rfl; apply Pev.pick_and; rfl; exact yes; rfl; exact fun h => h
        apply omv; rfl; rfl
        apply OL.op; exact Guard.yes rfl rfl; rfl; rfl; apply Pev.move; rfl; exact yes
        apply OL.op; exact Guard.yes rfl rfl; rfl; rfl; apply Pev.move; rfl; exact yes
        apply OL.op; exact Guard.yes rfl rfl; rfl; rfl; apply Pev.move; rfl; exact yes
        apply OL.op; exact Guard.yes rfl rfl; rfl; rfl; apply Pev.fld; rfl; exact yes; rfl
        apply OL.op; exact Guard.yes rfl rfl; rfl; rfl; apply Pev.load_blk; rfl; exact fun h => h; exact .head _; rfl; rfl
        apply OL.op; exact Guard.yes rfl rfl; rfl; rfl; apply Pev.idx; rfl; exact fun h => h; rfl; exact yes; rfl; rfl; intro hcond; (simp only [Bool.and_eq_true, Bool.or_eq_true, Bool.not_eq_true', decide_eq_true_eq, decide_eq_false_iff_not] at *; omega)
        apply OL.op; exact Guard.yes rfl rfl; rfl; rfl; apply Pev.load_keptA; rfl; exact fun h => h; exact .head _; rfl; intro hcond; assumption; rfl; intro hcond; assumption; intro hcond; simp only [add_block]; refine NotOwned.blk (by omega) ?_; exact NotOwned.nil
        (((first | (with_reducible apply OL.op) | (with_reducible apply QL.op)); ((first | exact Guard.none | exact Guard.yes rfl rfl | exact Guard.no rfl rfl | exact Guard.cyes rfl rfl | exact Guard.cno rfl rfl)); rfl; rfl); (exact Pev.call rfl (by (repeat (first | exact Args.nil | (apply Args.cons rfl; ((first | exact fun _ => rfl | exact fun h => h | (intro h; simp_all; done))))))) (fun _ w2 hw2 => hkid _ _ _ w2 (j := 2) rfl hw2' (fun k hk => by (focus ((try simp only [add_block]); (repeat (first | exact NotOwned.nil | exact hno _ (by omega) | refine NotOwned.nothing ?_ | refine NotOwned.nds (hlow _ (by omega)) ?_ | refine NotOwned.mapS (by omega) ?_ | apply NotOwned.bif | refine NotOwned.blk (by omega) ?_ | refine NotOwned.row (by omega) ?_ | refine NotOwned.grid (by assumption) (by omega) ?_ | refine NotOwned.pile (by omega) ?_)); done))) hw2)))
        apply OL.op; exact Guard.none; rfl; rfl; apply Pev.pick_and; rfl; exact yes; rfl; exact fun h => h
        apply oas; rfl; rfl
        apply OL.nil
        with_reducible apply At.next
        apply W.ret
        with_reducible apply At.in_ret
        with_reducible apply At.then_ret
        ((with_reducible apply At.fin1); rfl; rfl; intro w' hw')
        refine ⟨?_, by (exact hw'.toExt (by (repeat (first | exact List.Mem.head _ | apply List.Mem.tail))) (fun k hk => by (focus ((try simp only [add_block]); (repeat (first | exact NotOwned.nil | exact hno _ (by omega) | refine NotOwned.nothing ?_ | refine NotOwned.nds (hlow _ (by omega)) ?_ | refine NotOwned.mapS (by omega) ?_ | apply NotOwned.bif | refine NotOwned.blk (by omega) ?_ | refine NotOwned.row (by omega) ?_ | refine NotOwned.grid (by assumption) (by omega) ?_ | refine NotOwned.pile (by omega) ?_)); done))))⟩
        rw [req]
        simp [reqs, Bool.and_assoc]
      · apply W.seq
        apply W.reg
        apply obn; rfl; rfl; rfl; apply Bin.eql
        apply oas; rfl; rfl
        apply OL.nil
        with_reducible apply At.next
        (refine W.cond rfl (fun h3 => ?_) (fun h3 => ?_)) <;> (try (simp only [Bool.and_eq_true, Bool.or_eq_true, Bool.not_eq_true', Bool.and_eq_false_iff, Bool.or_eq_false_iff, Bool.not_eq_false', decide_eq_true_eq, decide_eq_false_iff_not, Int.not_lt, Int.not_le] at h3)) <;> (try (exfalso; first | omega | exact h3 trivial | contradiction))
        · subst h3
          have hl1 : ps.length = 1 := by simp [manyOf] at hmany; omega
          obtain ⟨p0, rfl⟩ := list1 hl1
          obtain ⟨a, rfl, hab, hc0⟩ := hce (i := 0) rfl
          have hw0 := hwk (j := 0) rfl
          clear hce hwk
          apply W.seq
          apply W.reg
          apply omv; rfl; rfl
          apply obn; rfl; rfl; rfl; apply Bin.eql
          apply omv; rfl; rfl
          apply OL.op; exact Guard.yes rfl rfl; rfl; rfl; apply Pev.move; rfl; exact yes
          apply OL.op; exact Guard.yes rfl rfl; rfl; rfl; apply Pev.move; rfl; exact yes
          apply OL.op; exact Guard.yes rfl rfl; rfl; rfl; apply Pev.move; rfl; exact yes
          apply OL.op; exact Guard.yes rfl rfl; rfl; rfl; apply Pev.fld; rfl; exact yes; rfl
          apply OL.op; exact Guard.yes rfl rfl; rfl; rfl; apply Pev.load_blk; rfl; exact fun h => h; exact .head _; rfl; rfl
          apply OL.op; exact Guard.yes rfl rfl; rfl; rfl; apply Pev.idx; rfl; exact fun h => h; rfl; exact yes; rfl; rfl; intro hcond; (simp only [Bool.and_eq_true, Bool.or_eq_true, Bool.not_eq_true', decide_eq_true_eq, decide_eq_false_iff_not] at *; omega)
          apply OL.op; exact Guard.yes rfl rfl; rfl; rfl; apply Pev.load_keptA; rfl; exact fun h => h; exact .head _; rfl; intro hcond; assumption; rfl; intro hcond; assumption; intro hcond; simp only [add_block]; refine NotOwned.blk (by omega) ?_; exact NotOwned.nil
          (((first | (with_reducible apply OL.op) | (with_reducible apply QL.op)); ((first | exact Guard.none | exact Guard.yes rfl rfl | exact Guard.no rfl rfl | exact Guard.cyes rfl rfl | exact Guard.cno rfl rfl)); rfl; rfl); (exact Pev.call rfl (by (repeat (first | exact Args.nil | (apply Args.cons rfl; ((first | exact fun _ => rfl | exact fun h => h | (intro h; simp_all; done))))))) (fun _ w2 hw2 => hkid _ _ _ w2 (j := 0) rfl hw0 (fun k hk => by (focus ((try simp only [add_block]); (repeat (first | exact NotOwned.nil | exact hno _ (by omega) | refine NotOwned.nothing ?_ | refine NotOwned.nds (hlow _ (by omega)) ?_ | refine NotOwned.mapS (by omega) ?_ | apply NotOwned.bif | refine NotOwned.blk (by omega) ?_ | refine NotOwned.row (by omega) ?_ | refine NotOwned.grid (by assumption) (by omega) ?_ | refine NotOwned.pile (by omega) ?_)); done))) hw2)))
          apply OL.op; exact Guard.none; rfl; rfl; apply Pev.pick_and; rfl; exact yes; rfl; exact fun h => h
          apply oas; rfl; rfl
          apply OL.nil
          with_reducible apply At.next
          apply W.ret
          with_reducible apply At.in_ret
          with_reducible apply At.then_ret
          ((with_reducible apply At.fin1); rfl; rfl; intro w' hw')
          refine ⟨?_, by (exact hw'.toExt (by (repeat (first | exact List.Mem.head _ | apply List.Mem.tail))) (fun k hk => by (focus ((try simp only [add_block]); (repeat (first | exact NotOwned.nil | exact hno _ (by omega) | refine NotOwned.nothing ?_ | refine NotOwned.nds (hlow _ (by omega)) ?_ | refine NotOwned.mapS (by omega) ?_ | apply NotOwned.bif | refine NotOwned.blk (by omega) ?_ | refine NotOwned.row (by omega) ?_ | refine NotOwned.grid (by assumption) (by omega) ?_ | refine NotOwned.pile (by omega) ?_)); done))))⟩
          rw [req]
          simp [reqs]
        · apply W.seq
          apply W.reg
          apply obn; rfl; rfl; rfl; apply Bin.eql
          apply oas; rfl; rfl
          apply OL.nil
          with_reducible apply At.next
          (refine W.cond rfl (fun h5 => ?_) (fun h5 => ?_)) <;> (try (simp only [Bool.and_eq_true, Bool.or_eq_true, Bool.not_eq_true', Bool.and_eq_false_iff, Bool.or_eq_false_iff, Bool.not_eq_false', decide_eq_true_eq, decide_eq_false_iff_not, Int.not_lt, Int.not_le] at h5)) <;> (try (exfalso; first | omega | exact h5 trivial | contradiction))
          · subst h5
            have hl2 : ps.length = 2 := by simp [manyOf] at hmany; omega
            obtain ⟨p0, p1, rfl⟩ := list2 hl2
            obtain ⟨a, rfl, hab, hc0⟩ := hce (i := 0) rfl
            obtain ⟨a', e1, _, hc1⟩ := hce (i := 1) rfl
            obtain rfl := Option.some.inj e1
            have hw0 := hwk (j := 0) rfl
            have hw1 := hwk (j := 1) rfl
            clear hce hwk
            apply W.seq
            apply W.reg
            apply omv; rfl; rfl
            apply obn; rfl; rfl; rfl; apply Bin.neq
            apply omv; rfl; rfl
            apply OL.op; exact Guard.yes rfl rfl; rfl; rfl; apply Pev.move; rfl; exact yes
            apply OL.op; exact Guard.yes rfl rfl; rfl; rfl; apply Pev.move; rfl; exact yes
            apply OL.op; exact Guard.yes rfl rfl; rfl; rfl; apply Pev.move; rfl; exact yes
            apply OL.op; exact Guard.yes rfl rfl; rfl; rfl; apply Pev.fld; rfl; exact yes; rfl
            apply OL.op; exact Guard.yes rfl rfl; rfl; rfl; apply Pev.load_blk; rfl; exact fun h => h; exact .head _; rfl; rfl
            apply OL.op; exact Guard.yes rfl rfl; rfl; rfl; apply Pev.idx; rfl; exact fun h => h; rfl; exact yes; rfl; rfl; intro hcond; (simp only [Bool.and_eq_true, Bool.or_eq_true, Bool.not_eq_true', decide_eq_true_eq, decide_eq_false_iff_not] at *; omega)
            apply OL.op; exact Guard.yes rfl rfl; rfl; rfl; apply Pev.load_keptA; rfl; exact fun h => h; exact .head _; rfl; intro hcond; assumption; rfl; intro hcond; assumption; intro hcond; simp only [add_block]; refine NotOwned.blk (by omega) ?_; exact NotOwned.nil
            (((first | (with_reducible apply OL.op) | (with_reducible apply QL.op)); ((first | exact Guard.none | exact Guard.yes rfl rfl | exact Guard.no rfl rfl | exact Guard.cyes rfl rfl | exact Guard.cno rfl rfl)); rfl; rfl); (exact Pev.call rfl (by (repeat (first | exact Args.nil | (apply Args.cons rfl; ((first | exact fun _ => rfl | exact fun h => h | (intro h; simp_all; done))))))) (fun _ w2 hw2 => hkid _ _ _ w2 (j := 0) rfl hw0 (fun k hk => by (focus ((try simp only [add_block]); (repeat (first | exact NotOwned.nil | exact hno _ (by omega) | refine NotOwned.nothing ?_ | refine NotOwned.nds (hlow _ (by omega)) ?_ | refine NotOwned.mapS (by omega) ?_ | apply NotOwned.bif | refine NotOwned.blk (by omega) ?_ | refine NotOwned.row (by omega) ?_ | refine NotOwned.grid (by assumption) (by omega) ?_ | refine NotOwned.pile (by omega) ?_)); done))) hw2)))
            apply OL.op; exact Guard.none; rfl; rfl; apply Pev.pick_and; rfl; exact yes; rfl; exact fun h => h
            apply omv; rfl; rfl
            apply OL.op; exact Guard.yes rfl rfl; rfl; rfl; apply Pev.move; rfl; exact yes
            apply OL.op; exact Guard.yes rfl rfl; rfl; rfl; apply Pev.move; rfl; exact yes
            apply OL.op; exact Guard.yes rfl rfl; rfl; rfl; apply Pev.move; rfl; exact yes
            apply OL.op; exact Guard.yes rfl rfl; rfl; rfl; apply Pev.fld; rfl; exact yes; rfl
            apply OL.op; exact Guard.yes rfl rfl; rfl; rfl; apply Pev.load_blk; rfl; exact fun h => h; exact .head _; rfl; rfl
            apply OL.op; exact Guard.yes rfl rfl; rfl; rfl; apply Pev.idx; rfl; exact fun h => h; rfl; exact yes; rfl; rfl; intro hcond; (simp only [Bool.and_eq_true, Bool.or_eq_true, Bool.not_eq_true', decide_eq_true_eq, decide_eq_false_iff_not] at *; omega)
            apply OL.op; exact Guard.yes rfl rfl; rfl; rfl; apply Pev.load_keptA; rfl; exact fun h => h; exact .head _; rfl; intro hcond; assumption; rfl; intro hcond; assumption; intro hcond; simp only [add_block]; refine NotOwned.blk (by omega) ?_; exact NotOwned.nil
            apply OL.op; exact Guard.yes rfl rfl; rfl; rfl; apply Pev.move; rfl; exact yes
            (((first | (with_reducible apply OL.op) | (with_reducible apply QL.op)); ((first | exact Guard.none | exact Guard.yes rfl rfl | exact Guard.no rfl rfl | exact Guard.cyes rfl rfl | exact Guard.cno rfl rfl)); rfl; rfl); (exact Pev.call rfl (by (repeat (first | exact Args.nil | (apply Args.cons rfl; ((first | exact fun _ => rfl | exact fun h => h | (intro h; simp_all; done))))))) (fun _ w2 hw2 => hkid _ _ _ w2 (j := 1) rfl hw1 (fun k hk => by (focus ((try simp only [add_block]); (repeat (first | exact NotOwned.nil | exact hno _ (by omega) | refine NotOwned.nothing ?_ | refine NotOwned.nds (hlow _ (by omega)) ?_ | refine NotOwned.mapS (by omega) ?_ | apply NotOwned.bif | refine NotOwned.blk (by omega) ?_ | refine NotOwned.row (by omega) ?_ | refine NotOwned.grid (by assumption) (by omega) ?_ | refine NotOwned.pile (by omega) ?_)); done))) hw2)))
            apply OL.op; exact Guard.none; rfl; rfl; apply Pev.pick_and; rfl; exact yes; rfl; exact fun h => h
            apply oas; rfl; rfl
            apply OL.nil
            with_reducible apply At.next
            apply W.ret
            with_reducible apply At.in_ret
            with_reducible apply At.then_ret
            ((with_reducible apply At.fin1); rfl; rfl; intro w' hw')
            refine ⟨?_, by (exact hw'.toExt (by (repeat (first | exact List.Mem.head _ | apply List.Mem.tail))) (fun k hk => by (focus ((try simp only [add_block]); (repeat (first | exact NotOwned.nil | exact hno _ (by omega) | refine NotOwned.nothing ?_ | refine NotOwned.nds (hlow _ (by omega)) ?_ | refine NotOwned.mapS (by omega) ?_ | apply NotOwned.bif | refine NotOwned.blk (by omega) ?_ | refine NotOwned.row (by omega) ?_ | refine NotOwned.grid (by assumption) (by omega) ?_ | refine NotOwned.pile (by omega) ?_)); done))))⟩
            rw [req]
            simp [reqs, Bool.and_assoc]
          · have h4 : k = 4 := by omega
            subst h4
            apply W.skip
            with_reducible apply At.in_normal
            with_reducible apply At.next
            apply W.seq
            apply W.reg
            apply omv; rfl; rfl
            apply obn; rfl; rfl; rfl; apply Bin.neq
            apply oas; rfl; rfl
            apply OL.nil
            with_reducible apply At.next
            apply W.ret
            ((with_reducible apply At.fin1); rfl; rfl; intro w' hw')
            refine ⟨?_, by (exact hw'.toExt (by (repeat (first | exact List.Mem.head _ | apply List.Mem.tail))) (fun k hk => by (focus ((try simp only [add_block]); (repeat (first | exact NotOwned.nil | exact hno _ (by omega) | refine NotOwned.nothing ?_ | refine NotOwned.nds (hlow _ (by omega)) ?_ | refine NotOwned.mapS (by omega) ?_ | apply NotOwned.bif | refine NotOwned.blk (by omega) ?_ | refine NotOwned.row (by omega) ?_ | refine NotOwned.grid (by assumption) (by omega) ?_ | refine NotOwned.pile (by omega) ?_)); done))))⟩
            rw [req]
            simp
end Go.Proofs.YtaponemcbnnebaaDoor.ki
