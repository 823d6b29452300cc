/- The walks of slices.IndexFunc and ContainsFunc at ints, and of the printer's fields. Conditions: none. -/
import Derived.Test.YtlcclcakdfmgkaaPkC
namespace Go.Proofs.Ytlcclcakdfmgkaa.pk
open Go.RowKit Go.Eng Go.Pk
set_option linter.unusedVariables false
set_option linter.unusedSimpArgs false
set_option maxRecDepth 100000

theorem AllLe_le {S : List World} {a b : Nat} (h : AllLe S a) (hab : a ≤ b) : AllLe S b := by
  induction S with
  | nil => trivial
  | cons s S ih => exact ⟨Nat.le_trans h.1 hab, ih h.2⟩
theorem Thin.row {S : List World} {base m cap size : Nat} {O : Nat → Prop} {q : Option Addr} {e : TypeId} {xs : List Value} {H H' : List Eng.Item} (hb : AllLe S base) (h : Thin S H H') : Thin S (Eng.row base O q m cap e size xs :: H) H' :=
  .any (fun k hk => AllLe_le hb hk.1) h
theorem IndexFunc_calls (q : Option Addr) (cap : Nat) (l : List Int) (f : FuncId) (first caps : List Value) (p : Int → Bool) (w : World) (hlen : l.length ≤ 9223372036854775807) (h : SlAt w w.heap.size q (ins l))
    (hf : callable Try.prog f = true) (hp : ∀ s ∈ l, ∀ w', Ext w w' → Calls Try.prog f (first ++ [Value.int .i64 s] ++ caps).toArray w' fun e w'' => e = .returned (.bool (p s)) ∧ Ext w' w'') :
    Calls Try.prog 74 #[.slice q l.length cap, .func (.func f) first.toArray caps.toArray] w fun e w' => e = .returned (.int .i64 (idxP p l 0)) ∧ Ext w w' := by
  refine enter Try.func74 rfl Try.ntmps74 rfl (Cls.start w) ?_
  (simp only [argEnv, Nat.zero_add, Nat.reduceAdd])
  apply W.seq
  apply W.reg
  apply oas; rfl; rfl
  apply OL.nil
  with_reducible apply At.next
  apply W.seq
  apply W.seq
  apply W.reg
  apply omv; rfl; rfl
  apply OL.op; exact Guard.none; rfl; rfl; apply Pev.len_slice; rfl; exact yes; rfl
  apply omv; rfl; rfl
  apply OL.nil
  with_reducible apply At.next
  apply W.block
  refine W.loop (G := Nat) (fun i => i ≤ l.length ∧ idxP p (l.drop i) i = idxP p l 0) (fun i => l.length - i)
    (fun i => [(8, true, .int .i64 (i : Int)), (7, true, .int .i64 (l.length : Int)), (0, true, .slice q l.length cap), (1, true, .func (.func f) first.toArray caps.toArray)])
    (fun i => Cls [] [w]) 0 ⟨by omega, rfl⟩ (by (repeat (first | exact Sub.nil | apply Sub.cons rfl | (refine Sub.cons_eq rfl (congrArg (Value.int .i64) (by first | omega | (simp only; omega))) ?_)))) (fun w' hw' => hw') ?_
  rintro i ⟨hi, hrest⟩
  apply W.seq
  apply W.reg
  apply obn; rfl; rfl; rfl; apply Bin.lss
  apply OL.nil
  with_reducible apply At.next
  apply W.seq
  (refine W.cond rfl (fun hlt => ?_) (fun hlt => ?_)) <;> (try (simp only [Bool.and_eq_true, Bool.or_eq_true, Bool.not_eq_true', Bool.and_eq_false_iff, Bool.or_eq_false_iff, Bool.not_eq_false', decide_eq_true_eq, decide_eq_false_iff_not, Int.not_lt, Int.not_le] at hlt)) <;> (try (exfalso; first | omega | exact hlt trivial | contradiction))
  · obtain ⟨a, u, rfl, hab, hu, hcell⟩ := SlAt.int h (show i < l.length by omega)
    rw [idxP_get hu] at hrest
    apply W.skip
    with_reducible apply At.next
    apply W.seq
    apply W.block
    apply W.seq
    apply W.reg
    apply omv; rfl; rfl
    apply oas; rfl; rfl
    apply OL.nil
    with_reducible apply At.next
    apply W.seq
    apply W.reg
    apply omv; rfl; rfl
    apply omv; rfl; rfl
    apply omv; rfl; rfl
    apply OL.op; exact Guard.none; rfl; rfl; apply Pev.idx; rfl; exact yes; rfl; exact yes; rfl; rfl; intro hcond; omega
    apply OL.op; exact Guard.none; rfl; rfl; apply Pev.load_kept; rfl; exact yes; exact .head _; rfl; intro hcond; assumption; intro hcond; (rw [add_block]; assumption); intro hcond; exact NotOwned.nil
    (((first | (with_reducible apply OL.op) | (with_reducible apply QL.op)); ((first | exact Guard.none | exact Guard.yes rfl rfl | exact Guard.no rfl rfl | exact Guard.cyes rfl rfl | exact Guard.cno rfl rfl)); rfl; rfl); (apply Pev.callv (first := first) (cap := caps)); rfl; ((first | exact fun _ => rfl | exact fun h => h | (intro h; simp_all; done))); (exact hf); ((repeat (first | exact Args.nil | (apply Args.cons rfl; ((first | exact fun _ => rfl | exact fun h => h | (intro h; simp_all; done))))))); (exact (fun _ w2 hw2 => (hp u (List.mem_of_getElem? hu) w2 (hw2.toExt (by (repeat (first | exact List.Mem.head _ | apply List.Mem.tail))) (fun k hk => by (focus ((try simp only [add_block]); (repeat (first | exact NotOwned.nil | exact hno _ (by omega) | refine NotOwned.nothing ?_ | refine NotOwned.nds (hlow _ (by omega)) ?_ | refine NotOwned.mapS (by omega) ?_ | apply NotOwned.bif | refine NotOwned.blk (by omega) ?_ | refine NotOwned.row (by omega) ?_ | refine NotOwned.grid (by assumption) (by omega) ?_)); done))))).mono (fun e w3 h => ⟨h.1, hw2.ext h.2⟩))))
    apply OL.nil
    with_reducible apply At.next
    (refine W.cond rfl (fun heq => ?_) (fun heq => ?_)) <;> (try (simp only [Bool.and_eq_true, Bool.or_eq_true, Bool.not_eq_true', Bool.and_eq_false_iff, Bool.or_eq_false_iff, Bool.not_eq_false', decide_eq_true_eq, decide_eq_false_iff_not, Int.not_lt, Int.not_le] at heq)) <;> (try (exfalso; first | omega | exact heq trivial | contradiction))
    · apply W.seq
      apply W.reg
      apply omv; rfl; rfl
      apply oas; rfl; rfl
      apply OL.nil
      with_reducible apply At.next
      apply W.ret
      with_reducible apply At.in_ret
      with_reducible apply At.then_ret
      with_reducible apply At.then_ret
      with_reducible apply At.in_ret
      with_reducible apply At.then_ret
      ((with_reducible apply At.fin1); rfl; rfl; intro w' hw')
      rw [if_pos heq] at hrest
      exact ⟨by rw [hrest], by (exact hw'.toExt (by (repeat (first | exact List.Mem.head _ | apply List.Mem.tail))) (fun k hk => by (focus ((try simp only [add_block]); (repeat (first | exact NotOwned.nil | exact hno _ (by omega) | refine NotOwned.nothing ?_ | refine NotOwned.nds (hlow _ (by omega)) ?_ | refine NotOwned.mapS (by omega) ?_ | apply NotOwned.bif | refine NotOwned.blk (by omega) ?_ | refine NotOwned.row (by omega) ?_ | refine NotOwned.grid (by assumption) (by omega) ?_)); done))))⟩
    · apply W.skip
      with_reducible apply At.in_normal
      with_reducible apply At.next
      apply W.reg
      apply obn; rfl; rfl; rfl; apply Bin.add_in; omega
      apply omv; rfl; rfl
      apply OL.nil
      rw [if_neg (by simpa using heq)] at hrest
      exact At.again (i + 1) ⟨by omega, hrest⟩ (by omega) (by (repeat (first | exact Sub.nil | apply Sub.cons rfl | (refine Sub.cons_eq rfl (congrArg (Value.int .i64) (by first | omega | (simp only; omega))) ?_)))) (fun w' hw' => hw')
  · apply W.exit
    with_reducible apply At.then_exit
    with_reducible apply At.then_exit
    with_reducible apply At.in_exit
    with_reducible apply At.next
    apply W.seq
    apply W.reg
    apply oas; rfl; rfl
    apply OL.nil
    with_reducible apply At.next
    apply W.ret
    ((with_reducible apply At.fin1); rfl; rfl; intro w' hw')
    rw [idxP_end (by omega)] at hrest
    exact ⟨by rw [hrest], by (exact hw'.toExt (by (repeat (first | exact List.Mem.head _ | apply List.Mem.tail))) (fun k hk => by (focus ((try simp only [add_block]); (repeat (first | exact NotOwned.nil | exact hno _ (by omega) | refine NotOwned.nothing ?_ | refine NotOwned.nds (hlow _ (by omega)) ?_ | refine NotOwned.mapS (by omega) ?_ | apply NotOwned.bif | refine NotOwned.blk (by omega) ?_ | refine NotOwned.row (by omega) ?_ | refine NotOwned.grid (by assumption) (by omega) ?_)); done))))⟩

theorem ContainsFunc_calls (q : Option Addr) (cap : Nat) (l : List Int) (f : FuncId) (first caps : List Value) (p : Int → Bool) (w : World) (hlen : l.length ≤ 9223372036854775807) (h : SlAt w w.heap.size q (ins l))
    (hf : callable Try.prog f = true) (hp : ∀ s ∈ l, ∀ w', Ext w w' → Calls Try.prog f (first ++ [Value.int .i64 s] ++ caps).toArray w' fun e w'' => e = .returned (.bool (p s)) ∧ Ext w' w'') :
    Calls Try.prog 58 #[.slice q l.length cap, .func (.func f) first.toArray caps.toArray] w fun e w' => e = .returned (.bool (l.any p)) ∧ Ext w w' := by
  refine enter Try.func58 rfl Try.ntmps58 rfl (Cls.start w) ?_
  (simp only [argEnv, Nat.zero_add, Nat.reduceAdd])
  apply W.seq
  apply W.reg
  apply oas; rfl; rfl
  apply OL.nil
  with_reducible apply At.next
  apply W.seq
  apply W.reg
  apply omv; rfl; rfl
  apply omv; rfl; rfl
  (((first | (with_reducible apply OL.op) | (with_reducible apply QL.op)); ((first | exact Guard.none | exact Guard.yes rfl rfl | exact Guard.no rfl rfl | exact Guard.cyes rfl rfl | exact Guard.cno rfl rfl)); rfl; rfl); (exact Pev.call rfl (by (repeat (first | exact Args.nil | (apply Args.cons rfl; ((first | exact fun _ => rfl | exact fun h => h | (intro h; simp_all; done))))))) (fun _ w2 hw2 => (IndexFunc_calls q cap l f first caps p w2 hlen (h.keep (hw2.below (s := w) (by (repeat (first | exact List.Mem.head _ | apply List.Mem.tail))) (Nat.le_refl _) (fun k hk => by (focus ((try simp only [add_block]); (repeat (first | exact NotOwned.nil | exact hno _ (by omega) | refine NotOwned.nothing ?_ | refine NotOwned.nds (hlow _ (by omega)) ?_ | refine NotOwned.mapS (by omega) ?_ | apply NotOwned.bif | refine NotOwned.blk (by omega) ?_ | refine NotOwned.row (by omega) ?_ | refine NotOwned.grid (by assumption) (by omega) ?_)); done)))) (hw2.kp w (by (repeat (first | exact List.Mem.head _ | apply List.Mem.tail)))).size) hf (fun s hs w3 h3 => hp s hs w3 ((hw2.toExt (s := w) (by (repeat (first | exact List.Mem.head _ | apply List.Mem.tail))) (fun k hk => by (focus ((try simp only [add_block]); (repeat (first | exact NotOwned.nil | exact hno _ (by omega) | refine NotOwned.nothing ?_ | refine NotOwned.nds (hlow _ (by omega)) ?_ | refine NotOwned.mapS (by omega) ?_ | apply NotOwned.bif | refine NotOwned.blk (by omega) ?_ | refine NotOwned.row (by omega) ?_ | refine NotOwned.grid (by assumption) (by omega) ?_)); done)))).trans h3))).mono (fun e w3 h => ⟨h.1, hw2.ext h.2⟩))))
  apply obn; rfl; rfl; rfl; apply Bin.geq
  apply oas; rfl; rfl
  apply OL.nil
  with_reducible apply At.next
  apply W.ret
  ((with_reducible apply At.fin1); rfl; rfl; intro w' hw')
  exact ⟨by rw [idxP_nonneg], by (exact hw'.toExt (by (repeat (first | exact List.Mem.head _ | apply List.Mem.tail))) (fun k hk => by (focus ((try simp only [add_block]); (repeat (first | exact NotOwned.nil | exact hno _ (by omega) | refine NotOwned.nothing ?_ | refine NotOwned.nds (hlow _ (by omega)) ?_ | refine NotOwned.mapS (by omega) ?_ | apply NotOwned.bif | refine NotOwned.blk (by omega) ?_ | refine NotOwned.row (by omega) ?_ | refine NotOwned.grid (by assumption) (by omega) ?_)); done))))⟩

/-- a node of a slice -/
theorem node_at {w : World} {q : Option Addr} {t : List Nk} (h : NodesAt w q t) {i : Nat} {u : Nk} (hu : t[i]? = some u) :
    ∃ a, q = some a ∧ a.block < w.heap.size ∧ CellsAt w (a.add (i * 6)) (nc u) ∧ u.kids.length * 8 ≤ 140737488351232 ∧ SlAt w w.heap.size u.q (ins u.kids) := by
  obtain ⟨a, x, rfl, hab, hx, hc⟩ := SlAt.elem h.at_ nlen (by decide) (List.getElem?_eq_some_iff.1 hu).1
  rw [hu] at hx
  cases hx
  exact ⟨a, rfl, hab, hc, h.kid u (List.mem_of_getElem? hu)⟩
/-- a kid that may be looked at -/
def KidOK (t : List Nk) (s : Int) : Prop := 0 ≤ s ∧ s < t.length ∧ ∀ v, t[s.toNat]? = some v → v.kind = 19 → ∃ k2 r, v.kids = k2 :: r ∧ 0 ≤ k2 ∧ k2 < t.length
theorem fields1_calls (t : List Nk) (u : Nk) (q : Option Addr) (cap m b2 b3 : Nat) (w : World) (hm : KidOK t m) (hn : NodesAt w q t) (ht : t.length ≤ 9223372036854775807) (hb2 : b2 < w.heap.size) (hb3 : b3 < w.heap.size)
    (h2 : w.cell? ⟨b2, 0, .none⟩ = some (.slice q t.length cap)) (h3 : w.cell? ⟨b3, 0, .none⟩ = some (.int .i64 u.kind)) :
    Calls Try.prog 59 #[.int .i64 (m : Int), .pointer (some ⟨b2, 0, .none⟩), .pointer (some ⟨b3, 0, .none⟩)] w fun e w' => e = .returned (.bool (fieldP t u m)) ∧ Ext w w' := by
  obtain ⟨_, hlt, hk⟩ := hm
  have hml : m < t.length := by omega
  obtain ⟨v, hv⟩ : ∃ v, t[m]? = some v := ⟨_, List.getElem?_eq_getElem hml⟩
  obtain ⟨a, rfl, hab, hc, hkl, hks⟩ := node_at hn hv
  have hkd : kd t m = v.kind := kd_get (by simpa using hv)
  have hk0 : k0 t m = kd t (v.kids.getD 0 0) := k0_get (by simpa using hv)
  refine enter Try.func59 rfl Try.ntmps59 rfl (Cls.start w) ?_
  (simp only [argEnv, Nat.zero_add, Nat.reduceAdd])
  by_cases h19 : v.kind = 19
  · obtain ⟨k2, r, e2, h20, h21⟩ := hk v (by simpa using hv) h19
    obtain ⟨m2, rfl⟩ := Int.eq_ofNat_of_zero_le h20
    have hml2 : m2 < t.length := by omega
    obtain ⟨v2, hv2⟩ : ∃ v2, t[m2]? = some v2 := ⟨_, List.getElem?_eq_getElem hml2⟩
    obtain ⟨a', ea, hab2, hc2, _, _⟩ := node_at hn hv2
    cases ea
    rw [e2] at hks
    obtain ⟨ak, eak, hakb, hck⟩ := hks (by simp [ins])
    have hck0 := hck 0 (.int .i64 (m2 : Int)) rfl
    have hvq : (nc v)[3]? = some (.slice (some ak) (r.length + 1) v.cap) := by simp [nc, e2, eak]
    have hc3 := hc 3 _ hvq
    apply W.seq
    apply W.reg
    apply oas; rfl; rfl
    apply OL.nil
    with_reducible apply At.next
    apply W.seq
    apply W.regd0; decide +kernel; kernel_rfl; decide +kernel; exact fun w hw => hw.drew
    apply QL.op; exact Guard.none; rfl; rfl; apply Pev.load_kept; rfl; exact yes; exact .head _; rfl; intro hcond; assumption; intro hcond; assumption; intro hcond; exact NotOwned.nil
    apply qmv; rfl; rfl
    apply QL.op; exact Guard.none; rfl; rfl; apply Pev.idx; rfl; exact yes; rfl; exact yes; rfl; rfl; intro hcond; omega
    apply QL.op; exact Guard.none; rfl; rfl; apply Pev.fldA; rfl; exact yes; rfl
    apply QL.op; exact Guard.none; rfl; rfl; apply Pev.load_kept; rfl; exact yes; exact .head _; rfl; intro hcond; apply CellsAt.at_ (by assumption) rfl; intro hcond; (simp only [add_block]; assumption); intro hcond; exact NotOwned.nil
    apply qbn; rfl; rfl; rfl; apply Bin.eql
    apply qmv; rfl; rfl
    apply QL.op; exact Guard.yes rfl rfl; rfl; rfl; apply Pev.load_kept; rfl; exact yes; exact .head _; rfl; intro hcond; assumption; intro hcond; assumption; intro hcond; exact NotOwned.nil
    apply QL.op; exact Guard.yes rfl rfl; rfl; rfl; apply Pev.load_kept; rfl; exact yes; exact .head _; rfl; intro hcond; assumption; intro hcond; assumption; intro hcond; exact NotOwned.nil
    apply QL.op; exact Guard.yes rfl rfl; rfl; rfl; apply Pev.move; rfl; exact yes
    apply QL.op; exact Guard.yes rfl rfl; rfl; rfl; apply Pev.idx; rfl; exact fun h => h; rfl; exact fun h => h; rfl; rfl; intro hcond; omega
    apply QL.op; exact Guard.yes rfl rfl; rfl; rfl; apply Pev.fldA; rfl; exact fun h => h; rfl
    apply QL.op; exact Guard.yes rfl rfl; rfl; rfl; apply Pev.load_kept; rfl; exact fun h => h; exact .head _; rfl; intro hcond; assumption; intro hcond; (simp only [add_block]; assumption); intro hcond; exact NotOwned.nil
    apply QL.op; exact Guard.yes rfl rfl; rfl; rfl; apply Pev.idx; rfl; exact fun h => h; rfl; exact yes; rfl; rfl; intro hcond; (simp only [Bool.and_eq_true, Bool.or_eq_true, Bool.not_eq_true', decide_eq_true_eq, decide_eq_false_iff_not] at *; omega)
    apply QL.op; exact Guard.yes rfl rfl; rfl; rfl; apply Pev.load_kept; rfl; exact fun h => h; exact .head _; rfl; intro hcond; assumption; intro hcond; assumption; intro hcond; exact NotOwned.nil
    apply QL.op; exact Guard.yes rfl rfl; rfl; rfl; apply Pev.idx; rfl; exact fun h => h; rfl; exact fun h => h; rfl; rfl; intro hcond; omega
    apply QL.op; exact Guard.yes rfl rfl; rfl; rfl; apply Pev.fldA; rfl; exact fun h => h; rfl
    apply QL.op; exact Guard.yes rfl rfl; rfl; rfl; apply Pev.load_kept; rfl; exact fun h => h; exact .head _; rfl; intro hcond; apply CellsAt.at_ (by assumption) rfl; intro hcond; (simp only [add_block]; assumption); intro hcond; exact NotOwned.nil
    (((first | (with_reducible apply OL.op) | (with_reducible apply QL.op)); ((first | exact Guard.none | exact Guard.yes rfl rfl | exact Guard.no rfl rfl | exact Guard.cyes rfl rfl | exact Guard.cno rfl rfl)); rfl; rfl); (exact Pev.call rfl (by (repeat (first | exact Args.nil | (apply Args.cons rfl; ((first | exact fun _ => rfl | exact fun h => h | (intro h; simp_all; done))))))) (fun _ w2 hw2 => (isType_calls v2.kind w2).mono (fun e w3 h => ⟨h.1, hw2.ext h.2⟩))))
    apply QL.op; exact Guard.yes rfl rfl; rfl; rfl; apply Pev.fld; rfl; exact yes; rfl
    apply QL.op; exact Guard.yes rfl rfl; rfl; rfl; apply Pev.load_kept; rfl; exact fun h => h; exact .head _; rfl; intro hcond; assumption; intro hcond; assumption; intro hcond; exact NotOwned.nil
    apply QL.op; exact Guard.yes rfl rfl; rfl; rfl; apply Pev.bin; rfl; exact fun h => h; rfl; exact yes; intro hcond; apply Bin.eql
    apply QL.op; exact Guard.yes rfl rfl; rfl; rfl; apply Pev.bin; rfl; exact fun h => h; rfl; exact fun h => h; intro hcond; apply Bin.bool_neq; rfl
    apply QL.op; exact Guard.none; rfl; rfl; apply Pev.pick_and; rfl; exact yes; rfl; exact fun h => h
    apply qas; rfl; rfl
    apply QL.nil
    with_reducible apply At.next
    apply W.ret
    ((with_reducible apply At.fin1); rfl; rfl; intro w' hw')
    refine ⟨congrArg (fun b => Ending.returned (Value.bool b)) ?_, by (exact hw'.toExt (by (repeat (first | exact List.Mem.head _ | apply List.Mem.tail))) (fun k hk => by (focus ((try simp only [add_block]); (repeat (first | exact NotOwned.nil | exact hno _ (by omega) | refine NotOwned.nothing ?_ | refine NotOwned.nds (hlow _ (by omega)) ?_ | refine NotOwned.mapS (by omega) ?_ | apply NotOwned.bif | refine NotOwned.blk (by omega) ?_ | refine NotOwned.row (by omega) ?_ | refine NotOwned.grid (by assumption) (by omega) ?_)); done))))⟩
    have hkd2 : kd t m2 = v2.kind := kd_get (by simpa using hv2)
    unfold fieldP
    rw [hkd, hk0, e2, List.getD_cons_zero, hkd2, h19]
    try simp
  · apply W.seq
    apply W.reg
    apply oas; rfl; rfl
    apply OL.nil
    with_reducible apply At.next
    apply W.seq
    apply W.regd0; decide +kernel; kernel_rfl; decide +kernel; exact fun w hw => hw.drew
    apply QL.op; exact Guard.none; rfl; rfl; apply Pev.load_kept; rfl; exact yes; exact .head _; rfl; intro hcond; assumption; intro hcond; assumption; intro hcond; exact NotOwned.nil
    apply qmv; rfl; rfl
    apply QL.op; exact Guard.none; rfl; rfl; apply Pev.idx; rfl; exact yes; rfl; exact yes; rfl; rfl; intro hcond; omega
    apply QL.op; exact Guard.none; rfl; rfl; apply Pev.fldA; rfl; exact yes; rfl
    apply QL.op; exact Guard.none; rfl; rfl; apply Pev.load_kept; rfl; exact yes; exact .head _; rfl; intro hcond; apply CellsAt.at_ (by assumption) rfl; intro hcond; (simp only [add_block]; assumption); intro hcond; exact NotOwned.nil
    apply qbn; rfl; rfl; rfl; apply Bin.eql
    apply qmv; rfl; rfl
    apply QL.op; exact Guard.yes rfl rfl; rfl; rfl; apply Pev.load_kept; rfl; exact yes; exact .head _; rfl; intro hcond; assumption; intro hcond; assumption; intro hcond; exact NotOwned.nil
    apply QL.op; exact Guard.yes rfl rfl; rfl; rfl; apply Pev.load_kept; rfl; exact yes; exact .head _; rfl; intro hcond; assumption; intro hcond; assumption; intro hcond; exact NotOwned.nil
    apply QL.op; exact Guard.yes rfl rfl; rfl; rfl; apply Pev.move; rfl; exact yes
    apply QL.op; exact Guard.yes rfl rfl; rfl; rfl; apply Pev.idx; rfl; exact fun h => h; rfl; exact fun h => h; rfl; rfl; intro hcond; omega
    apply QL.op; exact Guard.yes rfl rfl; rfl; rfl; apply Pev.fldA; rfl; exact fun h => h; rfl
    apply QL.op; exact Guard.yes rfl rfl; rfl; rfl; apply Pev.load_kept; rfl; exact fun h => h; exact .head _; rfl; intro hcond; apply CellsAt.at_ (by assumption) rfl; intro hcond; (simp only [add_block]; assumption); intro hcond; exact NotOwned.nil
    apply QL.gateOff; exact Guard.yes rfl rfl; (simp; omega); rfl
    apply QL.gateOff; exact Guard.yes rfl rfl; (simp; omega); rfl
    apply QL.gateOff; exact Guard.yes rfl rfl; (simp; omega); rfl
    apply QL.gateOff; exact Guard.yes rfl rfl; (simp; omega); rfl
    apply QL.gateOff; exact Guard.yes rfl rfl; (simp; omega); rfl
    apply QL.gateOff; exact Guard.yes rfl rfl; (simp; omega); rfl
    apply QL.op; exact Guard.yes rfl rfl; rfl; rfl; apply Pev.fld; rfl; exact yes; rfl
    apply QL.op; exact Guard.yes rfl rfl; rfl; rfl; apply Pev.load_kept; rfl; exact fun h => h; exact .head _; rfl; intro hcond; assumption; intro hcond; assumption; intro hcond; exact NotOwned.nil
    apply QL.op; exact Guard.yes rfl rfl; rfl; rfl; apply Pev.bin; rfl; exact fun h => h; rfl; exact yes; intro hcond; apply Bin.eql
    apply QL.gateOff; exact Guard.yes rfl rfl; (simp; omega); rfl
    apply QL.op; exact Guard.none; rfl; rfl; apply Pev.pick_off; rfl; exact yes; (intro hcond; simp; omega); rfl; exact yes
    apply qas; rfl; rfl
    apply QL.nil
    with_reducible apply At.next
    apply W.ret
    ((with_reducible apply At.fin1); rfl; rfl; intro w' hw')
    refine ⟨congrArg (fun b => Ending.returned (Value.bool b)) ?_, by (exact hw'.toExt (by (repeat (first | exact List.Mem.head _ | apply List.Mem.tail))) (fun k hk => by (focus ((try simp only [add_block]); (repeat (first | exact NotOwned.nil | exact hno _ (by omega) | refine NotOwned.nothing ?_ | refine NotOwned.nds (hlow _ (by omega)) ?_ | refine NotOwned.mapS (by omega) ?_ | apply NotOwned.bif | refine NotOwned.blk (by omega) ?_ | refine NotOwned.row (by omega) ?_ | refine NotOwned.grid (by assumption) (by omega) ?_)); done))))⟩
    unfold fieldP
    rw [hkd]
    simp [h19]
theorem fields_calls (t : List Nk) (u : Nk) (q : Option Addr) (cap : Nat) (w : World) (hk : ∀ s ∈ u.kids, KidOK t s) (hn : NodesAt w q t) (ht : t.length ≤ 9223372036854775807) (hu : u.kids.length * 8 ≤ 140737488351232) (hs : SlAt w w.heap.size u.q (ins u.kids)) :
    Calls Try.prog 45 #[.slice q t.length cap, .agg (nc u).toArray] w fun e w' => e = .returned (.bool (!u.kids.any (fieldP t u))) ∧ Ext w w' := by
  refine enter Try.func45 rfl Try.ntmps45 rfl (Cls.start w) ?_
  (simp only [argEnv, Nat.zero_add, Nat.reduceAdd])
  unfold nc
  apply W.seq
  apply W.reg
  apply OL.box; rfl; rfl; exact CellsL.one rfl; (intro bk hbk; simp only [AllLe, and_true] at hbk)
  apply OL.box; rfl; rfl; exact CellsL.agg; (intro bk hbk; simp only [AllLe, and_true] at hbk)
  apply oas; rfl; rfl
  apply OL.nil
  with_reducible apply At.next
  apply W.seq
  apply W.reg
  apply ofa; rfl; rfl; rfl
  apply old; rfl; rfl; exact .head _; rfl; rfl
  apply OL.op; exact Guard.none; rfl; rfl; apply Pev.makeFunc; exact Args.nil; apply Args.cons rfl; exact yes; apply Args.cons rfl; exact yes; exact Args.nil
  rename_i b2 hb2
  (((first | (with_reducible apply OL.op) | (with_reducible apply QL.op)); ((first | exact Guard.none | exact Guard.yes rfl rfl | exact Guard.no rfl rfl | exact Guard.cyes rfl rfl | exact Guard.cno rfl rfl)); rfl; rfl); (refine Pev.call (v := .bool (u.kids.any (fieldP t u))) rfl (by (repeat (first | exact Args.nil | (apply Args.cons rfl; ((first | exact fun _ => rfl | exact fun h => h | (intro h; simp_all; done))))))) (fun _ w2 hw2 => ?_)))
  · have h2 := hw2.item (i := blk b2 56 [.slice q t.length cap]) (by (repeat (first | exact List.Mem.head _ | apply List.Mem.tail)))
    have h3 := hw2.item (.head _)
    have hx2 : Ext w w2 := hw2.toExt (by (repeat (first | exact List.Mem.head _ | apply List.Mem.tail))) (fun k hk => by (focus ((try simp only [add_block]); (repeat (first | exact NotOwned.nil | exact hno _ (by omega) | refine NotOwned.nothing ?_ | refine NotOwned.nds (hlow _ (by omega)) ?_ | refine NotOwned.mapS (by omega) ?_ | apply NotOwned.bif | refine NotOwned.blk (by omega) ?_ | refine NotOwned.row (by omega) ?_ | refine NotOwned.grid (by assumption) (by omega) ?_)); done)))
    refine (ContainsFunc_calls u.q u.cap u.kids 59 [] [.pointer (some ⟨b2, 0, .none⟩), .pointer (some ⟨bk, 0, .none⟩)] (fieldP t u) w2 (by omega) (hs.ext hx2 (Nat.le_refl _)) rfl (fun s hs' w3 hx3 => ?_)).mono (fun e w3 h => ⟨h.1, hw2.ext h.2⟩)
    obtain ⟨m, rfl⟩ := Int.eq_ofNat_of_zero_le (hk s hs').1
    exact fields1_calls t u q cap m b2 bk w3 (hk _ hs') (hn.ext (hx2.trans hx3)) ht (Nat.lt_of_lt_of_le (blk_lt h2) hx3.size) (Nat.lt_of_lt_of_le (blk_lt h3) hx3.size) ((World.cell?_of_block (hx3.below.block _ (blk_lt h2))).trans (blk_cell h2)) ((World.cell?_of_block (hx3.below.block _ (blk_lt h3))).trans (blk_cell h3))
  apply OL.op; exact Guard.none; rfl; rfl; apply Pev.not; rfl; exact yes
  apply oas; rfl; rfl
  apply OL.nil
  with_reducible apply At.next
  apply W.ret
  ((with_reducible apply At.fin1); rfl; rfl; intro w' hw')
  exact ⟨rfl, by (exact hw'.toExt (by (repeat (first | exact List.Mem.head _ | apply List.Mem.tail))) (fun k hk => by (focus ((try simp only [add_block]); (repeat (first | exact NotOwned.nil | exact hno _ (by omega) | refine NotOwned.nothing ?_ | refine NotOwned.nds (hlow _ (by omega)) ?_ | refine NotOwned.mapS (by omega) ?_ | apply NotOwned.bif | refine NotOwned.blk (by omega) ?_ | refine NotOwned.row (by omega) ?_ | refine NotOwned.grid (by assumption) (by omega) ?_)); done))))⟩
end Go.Proofs.Ytlcclcakdfmgkaa.pk
