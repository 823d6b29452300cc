/- The walk of kinds.Infer. Conditions: none. (Printed by kinf.py.) -/
import Derived.Test.YtaponemcbnnebaaDoorKsD
namespace Go.Ki
open Go.Eng Go.RowKit
open Go.Proofs.YtaponemcbnnebaaDoor.ki (ins)
set_option linter.unusedVariables false
set_option linter.unusedSimpArgs false
def DD.di (d : DD) : DI := ⟨d.nm, (d.params : Int), d.q, d.cons.length, d.cap⟩
theorem dic_di (l : List DD) : cat dic (l.map DD.di) = cat dc (dss l) := by
  rw [dss, cat_map, cat_map]; rfl
/-- what Infer is asked here -/
structure InfOk (l : List DD) : Prop where
  len : l.length ≤ 4096
  par : ∀ d ∈ l, d.params ≤ 16
  sum : bsum (dss l) l.length ≤ 6
  dis : ∀ (i j : Nat) (d e : DD), j < i → l[i]? = some d → l[j]? = some e → e.nm ≠ d.nm
  bnd : ∀ d ∈ l, d.cons.length ≤ 9223372036854775807 ∧ ∀ c ∈ d.cons, c.args.length ≤ 9223372036854775807
  typ : ∀ d ∈ l, ∀ c ∈ d.cons, ∀ a ∈ c.args, (tyErr a.t false 1 0).2 = 0 ∧ rowA a.t = false
/-- a row of the answer -/
structure KR where
  nm : ByteArray
  q : Option Addr
  cap : Nat
  xs : List Int
def krc (k : KR) : List Value := [.string k.nm, .slice k.q k.xs.length k.cap]
theorem krc_len (k : KR) : (krc k).length = 2 := rfl
def KR.sl (k : KR) : Sl := ⟨k.q, k.cap, ins k.xs⟩
/-- the kinds of the roots of the slots of data type i -/
def Rs (σ : Sol) (l : List DD) (i : Nat) (xs : List Int) : Prop := ∀ (p : Nat) (v : Int), xs[p]? = some v → ∃ d r k, Rt σ.up d (3 + (bsum (dss l) i + p)) r ∧ σ.kind[r]? = some k ∧ v = max 0 k
def RowsOk (σ : Sol) (l : List DD) (rows : List KR) : Prop := ∀ (i : Nat) (kr : KR), rows[i]? = some kr → ∃ d, l[i]? = some d ∧ kr.nm = d.nm ∧ kr.xs.length = d.params ∧ Rs σ l i kr.xs
structure InfR (l : List DD) (er : Int) (rows : List KR) : Prop where
  bad : er ≠ 0 → (er = 6 ∨ er = 9) ∧ rows = [] ∧ ∀ f, Sat (sigN (bsum (dss l) l.length)) f → rD (dss l) f 0 l = false
  ok : er = 0 → rows.length = l.length ∧ ∃ σ, Inv σ ∧ σ.up.length = 3 + bsum (dss l) l.length ∧ (∀ f, Sat σ f ↔ (Sat (sigN (bsum (dss l) l.length)) f ∧ rD (dss l) f 0 l = true)) ∧ RowsOk σ l rows
theorem RowsOk.snoc {σ : Sol} {l : List DD} {rows : List KR} (h : RowsOk σ l rows) {i : Nat} (hi : rows.length = i) {d : DD} (hd : l[i]? = some d) {kr : KR} (h1 : kr.nm = d.nm) (h2 : kr.xs.length = d.params) (h3 : Rs σ l i kr.xs) : RowsOk σ l (rows ++ [kr]) := fun j k hj => by
  by_cases e : j < rows.length
  · rw [List.getElem?_append_left e] at hj
    exact h j k hj
  · have hjl := (List.getElem?_eq_some_iff.1 hj).1
    simp at hjl
    obtain rfl : j = rows.length := by omega
    rw [List.getElem?_append_right (Nat.le_refl _)] at hj
    simp at hj
    subst hj hi
    exact ⟨d, hd, h1, h2, h3⟩
theorem Rs.snoc {σ : Sol} {l : List DD} {i p d r : Nat} {xs : List Int} {k : Int} (h : Rs σ l i xs) (hp : xs.length = p) (hr : Rt σ.up d (3 + (bsum (dss l) i + p)) r) (hk : σ.kind[r]? = some k) : Rs σ l i (xs ++ [max 0 k]) := fun j v hj => by
  by_cases e : j < xs.length
  · rw [List.getElem?_append_left e] at hj
    exact h j v hj
  · have hjl := (List.getElem?_eq_some_iff.1 hj).1
    simp at hjl
    obtain rfl : j = xs.length := by omega
    rw [List.getElem?_append_right (Nat.le_refl _)] at hj
    simp at hj
    subst hp
    exact ⟨d, r, k, hr, hk, hj.symm⟩
theorem psF_at {nm : ByteArray} {x : List Nat} : ∀ (ds : List DS) (a : Nat), psF [] nm ds (fiOf ds a) = some x → ∃ i d, ds[i]? = some d ∧ x = (List.range d.params).map (a + bsum ds i + ·)
  | [], a, h => by simp [fiOf, psF, hasB] at h
  | d :: r, a, h => by
    rw [fiOf, psF] at h
    split at h
    · exact ⟨0, d, rfl, by simpa [bsum] using (Option.some.inj h).symm⟩
    · obtain ⟨i, e, h1, h2⟩ := psF_at r _ h
      exact ⟨i + 1, e, by simpa using h1, by rw [h2]; simp [bsum, Nat.add_assoc]⟩
theorem slotsOf_length {l : List DD} {i : Nat} {d : DD} (h : l[i]? = some d) : (slotsOf (dss l) i).length = d.params := by
  have : (dss l)[i]? = some d.ds := by simp [dss, h]
  simp [slotsOf, List.getD, this, DD.ds]
theorem slotsOf_lt {l : List DD} {i : Nat} {d : DD} (h : l[i]? = some d) {x : Nat} (hx : x ∈ slotsOf (dss l) i) : x < 3 + bsum (dss l) l.length := by
  have h2 : (dss l)[i]? = some d.ds := by simp [dss, h]
  simp only [slotsOf, List.getD, h2, Option.getD_some, List.mem_map, List.mem_range] at hx
  obtain ⟨p, hp, rfl⟩ := hx
  have h3 := bsum_succ h2
  have := bsum_mono (ds := dss l) (i := i + 1) (j := (dss l).length) (by have := (List.getElem?_eq_some_iff.1 h2).1; omega) (Nat.le_refl _)
  rw [dss_length] at this
  omega
end Go.Ki
namespace Go.Proofs.YtaponemcbnnebaaDoor.ki
open Go.RowKit Go.Eng Go.Ki
open Go.Proofs.YtaponemcbnnebaaDoor.uc (sizesAt)
set_option linter.unusedVariables false
set_option linter.unusedSimpArgs false
set_option maxRecDepth 100000
theorem infer_calls (qd : Option Addr) (cd : Nat) (l : List DD) (w : World) (hcap : l.length ≤ cd) (hO : InfOk l) (h : DOk w w.heap.size qd l) (hg : 0 < w.heap.size) (hs : sizesAt w) :
    Calls Tryd.prog 14 #[.slice none 0 0, .slice qd l.length cd] w fun e w' => ∃ (er : Int) (a : Option Addr) (c : Nat) (rows : List KR), e = .returned (.tuple #[.slice a rows.length c, .int .i64 er]) ∧ InfR l er rows ∧ Ext w w' ∧ SlAt w' w'.heap.size a (cat krc rows) ∧ ∀ kr ∈ rows, SlAt w' w'.heap.size kr.q (ins kr.xs) := by
  have hlen := hO.len
  have hcell : ∀ {i : Nat} {d : DD}, l[i]? = some d → ∃ a, qd = some a ∧ a.block < w.heap.size ∧ CellsAt w (a.add (i * 3)) [.string d.nm, .int .i64 (d.params : Int), .slice d.q d.cons.length d.cap] := fun {i d} hd => by
    obtain ⟨a, d', rfl, hab, hd', hcd⟩ := SlAt.elem h.ds dlen (by decide) (show i < (dss l).length by rw [dss_length]; exact (List.getElem?_eq_some_iff.1 hd).1)
    have : (dss l)[i]? = some d.ds := by simp [dss, hd]
    rw [this] at hd'
    obtain rfl := Option.some.inj hd'
    exact ⟨a, rfl, hab, hcd⟩
  have hdget : ∀ {i : Nat}, i < l.length → ∃ d, l[i]? = some d ∧ (dss l)[i]? = some d.ds ∧ bsum (dss l) (i + 1) = bsum (dss l) i + d.params ∧ bsum (dss l) (i + 1) ≤ 6 := fun {i} hi => by
    have hd : l[i]? = some l[i] := List.getElem?_eq_getElem hi
    have hd2 : (dss l)[i]? = some (l[i]).ds := by simp [dss, hd]
    refine ⟨l[i], hd, hd2, bsum_succ hd2, ?_⟩
    have := bsum_mono (ds := dss l) (i := i + 1) (j := (dss l).length) (by rw [dss_length]; omega) (Nat.le_refl _)
    rw [dss_length] at this
    exact Nat.le_trans this hO.sum
  obtain ⟨B, hB⟩ : ∃ B, w.heap.size = B := ⟨_, rfl⟩
  have hbS : ∃ s ∈ [w], B ≤ s.heap.size := ⟨w, .head _, by omega⟩
  refine enter Tryd.func14 rfl Tryd.ntmps14 rfl (Cls.start w) ?_
  (simp only [argEnv, Nat.zero_add, Nat.reduceAdd])
  apply W.seq
  apply W.reg
  apply oas; rfl; rfl
  apply oas; rfl; rfl
  apply OL.nil
  with_reducible apply At.next
  apply W.seq
  apply W.seq
  apply W.reg
  apply omv; rfl; rfl
  (((first | (with_reducible apply OL.op) | (with_reducible apply QL.op)); ((first | exact Guard.none | exact Guard.yes rfl rfl | exact Guard.no rfl rfl | exact Guard.cyes rfl rfl | exact Guard.cno rfl rfl)); rfl; rfl); (exact Pev.call rfl (by (repeat (first | exact Args.nil | (apply Args.cons rfl; ((first | exact fun _ => rfl | exact fun h => h | (intro h; simp_all; done))))))) (fun _ w2 hw2 => (kcheck_calls none 0 [] w2 (by simp) (by simp) SlAt.nil).mono (fun e w3 h => ⟨h.1, hw2.ext h.2⟩))))
  apply oas; rfl; rfl
  apply OL.nil
  with_reducible apply At.next
  apply W.seq
  apply W.reg
  apply omv; rfl; rfl
  apply obn; rfl; rfl; rfl; apply Bin.neq
  apply OL.nil
  with_reducible apply At.next
  refine W.cond rfl (fun hb => by simp at hb) (fun _ => ?_)
  apply W.skip
  with_reducible apply At.next
  apply W.seq
  apply W.seq
  apply W.reg
  apply omv; rfl; rfl
  apply OL.op; exact Guard.none; rfl; rfl; apply Pev.len_slice; rfl; exact yes; rfl
  apply obn; rfl; rfl; rfl; apply Bin.gtr
  apply OL.nil
  with_reducible apply At.next
  (refine W.cond rfl (fun hb => ?_) (fun hb => ?_)) <;> (try (simp only [Bool.and_eq_true, Bool.or_eq_true, Bool.not_eq_true', Bool.and_eq_false_iff, Bool.or_eq_false_iff, Bool.not_eq_false', decide_eq_true_eq, decide_eq_false_iff_not, Int.not_lt, Int.not_le] at hb)) <;> (try (exfalso; first | omega | exact hb trivial | contradiction))
  apply W.skip
  with_reducible apply At.next
  apply W.seq
  apply W.reg
  apply omv; rfl; rfl
  apply omv; rfl; rfl
  refine OL.callE (α := Loc × Nat) (fun x => .pointer (some ⟨x.2, 0, none⟩)) (fun x => At3 x.1 B x.2 (.slice none 0 0) (.slice qd l.length cd) (.slice none 0 0) ∧ B ≤ x.2) (fun x => Cls (x.1.items 3 (solN 3) []) [w]) rfl rfl (by (repeat (first | exact Args.nil | (apply Args.cons rfl; ((first | exact fun _ => rfl | exact fun h => h | (intro h; simp_all; done))))))) (fun w2 hw2 => (started_calls B none qd 0 0 l.length cd _ [w] w2 hbS hw2).mono fun e w3 ⟨L, bs, h1, h2, h3, h4⟩ => ⟨(L, bs), h1, ⟨h2, h3⟩, h4⟩) ?_
  rintro ⟨L, bs⟩ ⟨hL, hbs⟩
  simp only at hL hbs ⊢
  apply oas; rfl; rfl
  apply OL.nil
  with_reducible apply At.next
  apply W.seq
  apply W.seq
  apply W.reg
  apply omv; rfl; rfl
  apply OL.op; exact Guard.none; rfl; rfl; apply Pev.len_slice; rfl; exact yes; rfl
  apply omv; rfl; rfl
  apply OL.nil
  with_reducible apply At.next
  apply W.block
  refine W.loop (G := Nat × Loc × GP) (fun g => g.1 ≤ l.length ∧ At3 g.2.1 B bs (.slice none 0 0) (.slice qd l.length cd) (.slice g.2.2.q g.1 g.2.2.c)) (fun g => l.length - g.1)
    (fun g => [(0, true, .slice none 0 0), (1, true, .slice qd l.length cd), (7, true, .pointer (some ⟨bs, 0, none⟩)), (38, true, .slice qd l.length cd), (39, true, .int .i64 (l.length : Int)), (40, true, .int .i64 (g.1 : Int))])
    (fun g => Cls (g.2.1.items (3 + bsum (dss l) g.1) (sigN (bsum (dss l) g.1)) (row B g.2.2.O g.2.2.q g.1 g.2.2.c 3 1 (nts ((fiOf (dss l) 3).take g.1)) :: [])) [w]) (0, L, gp0) ⟨by simp, hL⟩ (by (repeat (first | exact Sub.nil | apply Sub.cons rfl | (refine Sub.cons_eq rfl (congrArg (Value.int .i64) (by first | omega | (simp only; omega))) ?_)))) (fun w' hw' => Cls.mid (A := [_]) (I := [_, _, _]) (hw'.row_nil B _ 1)) ?_
  rintro ⟨i, L, ⟨Of, qf, cf⟩⟩ ⟨hi, hL⟩
  simp only at hi hL ⊢
  apply W.seq
  apply W.reg
  apply obn; rfl; rfl; rfl; apply Bin.lss
  apply OL.nil
  with_reducible apply At.next
  apply W.seq
  (refine W.cond rfl (fun hlt => ?_) (fun hlt => ?_)) <;> (try (simp only [Bool.and_eq_true, Bool.or_eq_true, Bool.not_eq_true', Bool.and_eq_false_iff, Bool.or_eq_false_iff, Bool.not_eq_false', decide_eq_true_eq, decide_eq_false_iff_not, Int.not_lt, Int.not_le] at hlt)) <;> (try (exfalso; first | omega | exact hlt trivial | contradiction))
  · have hil : i < l.length := by omega
    obtain ⟨d, hd, hd2, hs1, hs2⟩ := hdget hil
    obtain ⟨a, rfl, hab, hcd⟩ := hcell hd
    obtain ⟨B', bs', k1, k2, k3, P1, q1, c1, P2, q2, c2⟩ := L
    have hLb := hL.b
    have hLs := hL.s
    have hL1 := hL.h1
    have hL2 := hL.h2
    have hL3 := hL.h3
    simp only at hLb hLs hL1 hL2 hL3
    clear hL
    subst hLb hLs hL1 hL2 hL3
    simp only [Loc.items, Loc.cells]
    apply W.skip
    with_reducible apply At.next
    apply W.seq
    apply W.block
    apply W.seq
    apply W.reg
    apply omv; rfl; rfl
    apply OL.op; exact Guard.none; rfl; rfl; apply Pev.idx; rfl; exact yes; rfl; exact yes; rfl; rfl; intro hcond; omega
    apply OL.op; exact Guard.none; rfl; rfl; apply Pev.load_keptA; rfl; exact yes; exact .head _; rfl; intro hcond; assumption; rfl; intro hcond; (rw [add_block]; assumption); intro hcond; simp only [add_block]; refine NotOwned.row (by omega) ?_; refine NotOwned.row (by omega) ?_; refine NotOwned.blk (by omega) ?_; refine NotOwned.row (by omega) ?_; exact NotOwned.nil
    apply OL.alloc; rfl; rfl; exact CellsL.agg; (intro bk hbk; simp only [AllLe, and_true] at hbk)
    apply oas; rfl; rfl
    apply OL.storeB; rfl; rfl; exact CellsL.agg; rfl; rfl; rfl; apply Swap.z; apply Put.here; apply Over.cons; apply Over.cons; apply Over.cons; apply Over.nil
    apply OL.nil
    with_reducible apply At.next
    apply W.seq
    apply W.seq
    apply W.reg
    apply omv; rfl; rfl
    apply ofa; rfl; rfl; rfl
    apply old; rfl; rfl; exact .head _; rfl; rfl
    revert bk
    intro bd hbd
    (((first | (with_reducible apply OL.op) | (with_reducible apply QL.op)); ((first | exact Guard.none | exact Guard.yes rfl rfl | exact Guard.no rfl rfl | exact Guard.cyes rfl rfl | exact Guard.cno rfl rfl)); rfl; rfl); (exact Pev.call rfl (by (repeat (first | exact Args.nil | (apply Args.cons rfl; ((first | exact fun _ => rfl | exact fun h => h | (intro h; simp_all; done))))))) (fun _ w2 hw2 => (Find_calls [] d.nm none 0 w2 (by simp) SlAt.nil).mono (fun e w3 h => ⟨h.1, hw2.ext h.2⟩))))
    apply omv; rfl; rfl
    apply oex; rfl; rfl; rfl
    apply oex; rfl; rfl; rfl
    apply oas; rfl; rfl
    apply oas; rfl; rfl
    apply OL.nil
    with_reducible apply At.next
    apply W.seq
    apply W.reg
    apply omv; rfl; rfl
    apply omv; rfl; rfl
    apply OL.op; exact Guard.no rfl rfl; rfl; rfl; apply Pev.move; rfl; exact yes
    apply OL.op; exact Guard.no rfl rfl; rfl; rfl; apply Pev.move; rfl; exact yes
    apply OL.op; exact Guard.no rfl rfl; rfl; rfl; apply Pev.slice_hi; rfl; exact yes; rfl; exact yes; rfl; rfl; intro hcond; omega
    apply OL.op; exact Guard.no rfl rfl; rfl; rfl; apply Pev.makeFunc; exact Args.nil; apply Args.cons rfl; exact yes; exact Args.nil
    have hpre : ∀ x ∈ (l.take i).map DD.di, decide (x.nm = d.nm) = false := fun x hx => by
      obtain ⟨e, he, rfl⟩ := List.mem_map.1 hx
      obtain ⟨j, hj⟩ := List.getElem?_of_mem he
      have hji : j < i := by
        have := (List.getElem?_eq_some_iff.1 hj).1
        simp at this
        omega
      rw [List.getElem?_take_of_lt hji] at hj
      exact decide_eq_false (hO.dis i j d e hji hd hj)
    have hlT : ((l.take i).map DD.di).length = i := by simp; omega
    (((first | (with_reducible apply OL.op) | (with_reducible apply QL.op)); ((first | exact Guard.none | exact Guard.yes rfl rfl | exact Guard.no rfl rfl | exact Guard.cyes rfl rfl | exact Guard.cno rfl rfl)); rfl; rfl); (refine Pev.call (v := .bool false) (vs := [.slice (some a) i cd, .func (.func 28) ([] : List Value).toArray [Value.pointer (some ⟨bd, 0, none⟩)].toArray]) rfl (by (repeat (first | exact Args.nil | (apply Args.cons rfl; ((first | exact fun _ => rfl | exact fun h => h | (intro h; simp_all; done))))))) (fun _ w2 hw2 => ?_)))
    · have hb : (blk bd 38 [.string d.nm, .int .i64 (d.params : Int), .slice d.q d.cons.length d.cap]).holds w2 := hw2.item (.head _)
      have hlt := hw2.lt _ (.head _) bd rfl
      have hbel := hw2.below (s := w) (.head _) (Nat.le_refl _) (fun k hk => by (focus ((try simp only [add_block]); (repeat (first | exact NotOwned.nil | exact hno _ (by omega) | refine NotOwned.nothing ?_ | refine NotOwned.nds (hlow _ (by omega)) ?_ | refine NotOwned.mapS (by omega) ?_ | apply NotOwned.bif | refine NotOwned.blk (by omega) ?_ | refine NotOwned.row (by omega) ?_ | refine NotOwned.grid (by assumption) (by omega) ?_ | refine NotOwned.pile (by omega) ?_)); done)))
      have hsl := (h.ds.keep hbel (hw2.kp w (.head _)).size).takeC i
      have e1 : (dss l).take i = dss (l.take i) := by simp [dss, List.map_take]
      rw [e1, ← dic_di] at hsl
      have hc := DContainsFunc_calls (some a) cd ((l.take i).map DD.di) 28 [] [.pointer (some ⟨bd, 0, none⟩)] (fun x => decide (x.nm = d.nm)) w2 (by omega) hsl rfl (fun x hx w3 h3 => lit1_calls x bd d.nm w3 (by rw [cell_heap (w := w2) (h3.block bd hlt id), blk_cell hb]; rfl) (Nat.lt_of_lt_of_le hlt h3.size))
      rw [hlT] at hc
      exact hc.mono (fun e w3 h => ⟨by rw [h.1, List.any_eq_false.2 (fun x hx => by simpa using hpre x hx)], hw2.ext h.2⟩)
    apply OL.op; exact Guard.none; rfl; rfl; apply Pev.pick_or; rfl; exact yes; rfl; exact yes
    apply OL.nil
    with_reducible apply At.next
    refine W.cond rfl (fun hb => by simp [hasB] at hb) (fun _ => ?_)
    have hdp := hO.par d (List.mem_of_getElem? hd)
    apply W.skip
    with_reducible apply At.next
    apply W.seq
    apply W.seq
    apply W.reg
    apply ofa; rfl; rfl; rfl
    apply old; rfl; rfl; exact .head _; rfl; rfl
    apply obn; rfl; rfl; rfl; apply Bin.lss
    apply omv; rfl; rfl
    apply OL.op; exact Guard.no rfl rfl; rfl; rfl; apply Pev.fld; rfl; exact yes; rfl
    apply OL.op; exact Guard.no rfl rfl; rfl; rfl; apply Pev.load_blk; rfl; exact yes; exact .head _; rfl; rfl
    apply OL.op; exact Guard.no rfl rfl; rfl; rfl; apply Pev.bin; rfl; exact yes; rfl; exact yes; intro hcond; apply Bin.gtr
    apply OL.op; exact Guard.none; rfl; rfl; apply Pev.pick_or; rfl; exact yes; rfl; exact yes
    apply OL.nil
    with_reducible apply At.next
    refine W.cond rfl (fun hb => by simp at hb; omega) (fun _ => ?_)
    refine W.cls (fun w' hw' => Cls.mid (A := [_]) (I := [_, _, _, _]) (H := []) hw') ?_
    simp only [List.cons_append, List.nil_append]
    apply W.skip
    with_reducible apply At.next
    apply W.seq
    refine W.regany (X := XV [w]) (fun x e => [(81, true, bif e 13 then .pointer (some ⟨bs', 0 + 2, none⟩) else x.old 81), (80, true, bif e 12 then .pointer (some ⟨bs', 0, none⟩) else x.old 80), (79, true, bif e 11 then .slice (some ⟨x.g1, 0, none⟩) (i + 1) x.c1 else x.old 79), (78, true, bif e 10 then .slice (some ⟨x.b1, 0, none⟩) 1 1 else x.old 78), (77, true, bif e 9 then .int .i64 ((3 + bsum (dss l) i : Nat) : Int) else x.old 77), (76, true, bif e 8 then .slice q1 (3 + bsum (dss l) i) c1 else x.old 76), (75, true, bif e 7 then .pointer (some ⟨bs', 0 + 3, none⟩) else x.old 75), (74, true, bif e 6 then .pointer (some ⟨bs', 0, none⟩) else x.old 74), (73, true, bif e 5 then .pointer (some ⟨bs', 0, none⟩) else x.old 73), (72, true, bif e 4 then .slice qf i cf else x.old 72), (71, true, bif e 3 then .pointer (some ⟨bs', 0 + 2, none⟩) else x.old 71), (70, true, bif e 2 then .pointer (some ⟨bs', 0, none⟩) else x.old 70), (69, true, bif e 1 then .pointer (some ⟨bs', 0, none⟩) else x.old 69), (68, true, bif e 0 then .pointer (some ⟨bs', 0, none⟩) else x.old 68), (0, true, .slice none 0 0), (1, true, .slice (some a) l.length cd), (7, true, .pointer (some ⟨bs', 0, none⟩)), (9, true, .pointer (some ⟨bd, 0, none⟩)), (38, true, .slice (some a) l.length cd), (39, true, .int .i64 (l.length : Int)), (40, true, .int .i64 (i : Int))])
      (fun x e => (row B' P1 q1 (3 + bsum (dss l) i) c1 3 1 (nts (sigN (bsum (dss l) i)).up)) :: (row B' P2 q2 (3 + bsum (dss l) i) c2 3 1 (ins (sigN (bsum (dss l) i)).kind)) :: (blk bs' 64 [.slice none 0 0, .slice (some a) l.length cd, bif e 14 then .slice (some ⟨x.g1, 0, none⟩) (i + 1) x.c1 else .slice qf i cf, .slice q1 (3 + bsum (dss l) i) c1, .slice q2 (3 + bsum (dss l) i) c2]) :: (bif e 11 then row B' x.O1 (some ⟨x.g1, 0, none⟩) (i + 1) x.c1 3 1 (nts ((fiOf (dss l) 3).take i) ++ [.int .i64 ((3 + bsum (dss l) i : Nat) : Int)]) else row B' Of qf i cf 3 1 (nts ((fiOf (dss l) 3).take i))) :: (blk bd 38 [.string d.nm, .int .i64 (d.params : Int), .slice d.q d.cons.length d.cap]) :: (bif e 10 then blk x.b1 3 [.int .i64 ((3 + bsum (dss l) i : Nat) : Int)] else nothing) :: [])
      (fun old => ⟨w.heap.size, ⟨Nat.le_refl _, trivial⟩, 0, 0, fun _ => False, old⟩) (by kernel_rfl) (by kernel_rfl) (fun w hw => hw.drew) (fun old => by repeat (first | exact SubO.nil | apply SubO.cons rfl | refine SubO.old rfl ?_)) (fun old w' hw' => hw'.add_nothing) ?_ ?_
    · intro x e i o ho hei hd hcl
      have hi : i < 15 := (List.getElem?_eq_some_iff.1 ho).1
      obtain rfl | rfl | rfl | rfl | rfl | rfl | rfl | rfl | rfl | rfl | rfl | rfl | rfl | rfl | rfl : i = 0 ∨ i = 1 ∨ i = 2 ∨ i = 3 ∨ i = 4 ∨ i = 5 ∨ i = 6 ∨ i = 7 ∨ i = 8 ∨ i = 9 ∨ i = 10 ∨ i = 11 ∨ i = 12 ∨ i = 13 ∨ i = 14 := by omega
      · cases ho
        have v0 : Eng.upd e 0 0 = true := upd_eq
        simp only [hei, cond_true, cond_false]
        apply omv; rfl; rfl
        apply OL.nil
        exact At.beside x (by repeat (first | exact Sub.nil | apply Sub.cons rfl | refine Sub.cons_eq rfl (by simp only [v0, cond_true, cond_false]) ?_)) (fun w' hw' => by first | exact hw' | (simp only [v0, cond_true, cond_false]; exact hw'))
      · cases ho
        have v1 : Eng.upd e 1 1 = true := upd_eq
        simp only [hei, cond_true, cond_false]
        apply omv; rfl; rfl
        apply OL.nil
        exact At.beside x (by repeat (first | exact Sub.nil | apply Sub.cons rfl | refine Sub.cons_eq rfl (by simp only [v1, cond_true, cond_false]) ?_)) (fun w' hw' => by first | exact hw' | (simp only [v1, cond_true, cond_false]; exact hw'))
      · cases ho
        have h1 : e 1 = true := hd ⟨1, .data⟩ (by simp) rfl
        have v2 : Eng.upd e 2 2 = true := upd_eq
        have v1 : Eng.upd e 2 1 = true := upd_mono h1
        simp only [hei, h1, cond_true, cond_false]
        apply OL.op; exact Guard.none; rfl; rfl; apply Pev.nil_ptr; rfl; exact yes
        apply OL.nil
        exact At.beside x (by repeat (first | exact Sub.nil | apply Sub.cons rfl | refine Sub.cons_eq rfl (by simp only [v2, v1, cond_true, cond_false]) ?_)) (fun w' hw' => by first | exact hw' | (simp only [v2, v1, cond_true, cond_false]; exact hw'))
      · cases ho
        have h2 : e 2 = true := hd ⟨2, .data⟩ (by simp) rfl
        have v3 : Eng.upd e 3 3 = true := upd_eq
        have v2 : Eng.upd e 3 2 = true := upd_mono h2
        simp only [hei, h2, cond_true, cond_false]
        apply ofa; rfl; rfl; rfl
        apply OL.nil
        exact At.beside x (by repeat (first | exact Sub.nil | apply Sub.cons rfl | refine Sub.cons_eq rfl (by simp only [v3, v2, cond_true, cond_false]) ?_)) (fun w' hw' => by first | exact hw' | (simp only [v3, v2, cond_true, cond_false]; exact hw'))
      · cases ho
        have h3 : e 3 = true := hd ⟨3, .data⟩ (by simp) rfl
        have h14 : e 14 = false := hcl.not (i := 4) (j := 14) rfl hei (by kernel_rfl)
        have v4 : Eng.upd e 4 4 = true := upd_eq
        have v3 : Eng.upd e 4 3 = true := upd_mono h3
        have v14 : Eng.upd e 4 14 = false := h14
        simp only [hei, h3, h14, cond_true, cond_false]
        apply old; rfl; rfl; exact .tail _ (.tail _ (.head _)); rfl; rfl
        apply OL.nil
        exact At.beside x (by repeat (first | exact Sub.nil | apply Sub.cons rfl | refine Sub.cons_eq rfl (by simp only [v4, v3, v14, cond_true, cond_false]) ?_)) (fun w' hw' => by first | exact hw' | (simp only [v4, v3, v14, cond_true, cond_false]; exact hw'))
      · cases ho
        have v5 : Eng.upd e 5 5 = true := upd_eq
        simp only [hei, cond_true, cond_false]
        apply omv; rfl; rfl
        apply OL.nil
        exact At.beside x (by repeat (first | exact Sub.nil | apply Sub.cons rfl | refine Sub.cons_eq rfl (by simp only [v5, cond_true, cond_false]) ?_)) (fun w' hw' => by first | exact hw' | (simp only [v5, cond_true, cond_false]; exact hw'))
      · cases ho
        have h5 : e 5 = true := hd ⟨5, .data⟩ (by simp) rfl
        have v6 : Eng.upd e 6 6 = true := upd_eq
        have v5 : Eng.upd e 6 5 = true := upd_mono h5
        simp only [hei, h5, cond_true, cond_false]
        apply OL.op; exact Guard.none; rfl; rfl; apply Pev.nil_ptr; rfl; exact yes
        apply OL.nil
        exact At.beside x (by repeat (first | exact Sub.nil | apply Sub.cons rfl | refine Sub.cons_eq rfl (by simp only [v6, v5, cond_true, cond_false]) ?_)) (fun w' hw' => by first | exact hw' | (simp only [v6, v5, cond_true, cond_false]; exact hw'))
      · cases ho
        have h6 : e 6 = true := hd ⟨6, .data⟩ (by simp) rfl
        have v7 : Eng.upd e 7 7 = true := upd_eq
        have v6 : Eng.upd e 7 6 = true := upd_mono h6
        simp only [hei, h6, cond_true, cond_false]
        apply ofa; rfl; rfl; rfl
        apply OL.nil
        exact At.beside x (by repeat (first | exact Sub.nil | apply Sub.cons rfl | refine Sub.cons_eq rfl (by simp only [v7, v6, cond_true, cond_false]) ?_)) (fun w' hw' => by first | exact hw' | (simp only [v7, v6, cond_true, cond_false]; exact hw'))
      · cases ho
        have h7 : e 7 = true := hd ⟨7, .data⟩ (by simp) rfl
        have v8 : Eng.upd e 8 8 = true := upd_eq
        have v7 : Eng.upd e 8 7 = true := upd_mono h7
        simp only [hei, h7, cond_true, cond_false]
        apply old; rfl; rfl; exact .tail _ (.tail _ (.head _)); rfl; rfl
        apply OL.nil
        exact At.beside x (by repeat (first | exact Sub.nil | apply Sub.cons rfl | refine Sub.cons_eq rfl (by simp only [v8, v7, cond_true, cond_false]) ?_)) (fun w' hw' => by first | exact hw' | (simp only [v8, v7, cond_true, cond_false]; exact hw'))
      · cases ho
        have h8 : e 8 = true := hd ⟨8, .data⟩ (by simp) rfl
        have v9 : Eng.upd e 9 9 = true := upd_eq
        have v8 : Eng.upd e 9 8 = true := upd_mono h8
        simp only [hei, h8, cond_true, cond_false]
        apply OL.op; exact Guard.none; rfl; rfl; apply Pev.len_slice; rfl; exact yes; rfl
        apply OL.nil
        exact At.beside x (by repeat (first | exact Sub.nil | apply Sub.cons rfl | refine Sub.cons_eq rfl (by simp only [v9, v8, cond_true, cond_false]) ?_)) (fun w' hw' => by first | exact hw' | (simp only [v9, v8, cond_true, cond_false]; exact hw'))
      · cases ho
        have h9 : e 9 = true := hd ⟨9, .data⟩ (by simp) rfl
        have v10 : Eng.upd e 10 10 = true := upd_eq
        have v9 : Eng.upd e 10 9 = true := upd_mono h9
        simp only [hei, h9, cond_true, cond_false]
        apply OL.buildSlice; rfl; rfl; rfl; apply Elems.cons rfl; exact CellsL.one rfl; rfl; apply Elems.nil; apply App.cons; apply App.nil; rfl; rfl; (intro bk hbk; simp only [AllLe, and_true] at hbk)
        apply OL.nil
        exact At.beside { x with b1 := bk, hb1 := ⟨hbk, trivial⟩ } (by repeat (first | exact Sub.nil | apply Sub.cons rfl | refine Sub.cons_eq rfl (by simp only [v10, v9, cond_true, cond_false]) ?_)) (fun w' hw' => by simp only [v10, v9, cond_true, cond_false]; exact Cls.fill (p := 5) (H := _ :: _ :: _ :: _ :: _ :: _ :: []) (.s (.s (.s (.s (.s .z))))) hw')
      · cases ho
        have h4 : e 4 = true := hd ⟨4, .data⟩ (by simp) rfl
        have h10 : e 10 = true := hd ⟨10, .data⟩ (by simp) rfl
        have h14 : e 14 = false := hcl.not (i := 11) (j := 14) rfl hei (by kernel_rfl)
        have v11 : Eng.upd e 11 11 = true := upd_eq
        have v4 : Eng.upd e 11 4 = true := upd_mono h4
        have v10 : Eng.upd e 11 10 = true := upd_mono h10
        have v14 : Eng.upd e 11 14 = false := h14
        simp only [hei, h4, h10, h14, cond_true, cond_false]
        apply OL.append
        rfl
        rfl
        rfl
        rfl
        (repeat (first | apply Hole.z | apply Hole.s))
        (repeat (first | exact List.Mem.head _ | apply List.Mem.tail))
        (repeat (first | apply Take.zero | apply Take.succ))
        rfl
        rfl
        exact hbS
        omega
        intro O1 g1 cap1
        apply OL.nil
        exact At.beside { x with g1 := g1, c1 := cap1, O1 := O1 } (by repeat (first | exact Sub.nil | apply Sub.cons rfl | refine Sub.cons_eq rfl (by simp only [v11, v4, v10, v14, cond_true, cond_false]) ?_)) (fun w' hw' => by first | exact hw' | (simp only [v11, v4, v10, v14, cond_true, cond_false]; exact hw'))
      · cases ho
        have h0 : e 0 = true := hd ⟨0, .data⟩ (by simp) rfl
        have v12 : Eng.upd e 12 12 = true := upd_eq
        have v0 : Eng.upd e 12 0 = true := upd_mono h0
        simp only [hei, h0, cond_true, cond_false]
        apply OL.op; exact Guard.none; rfl; rfl; apply Pev.nil_ptr; rfl; exact yes
        apply OL.nil
        exact At.beside x (by repeat (first | exact Sub.nil | apply Sub.cons rfl | refine Sub.cons_eq rfl (by simp only [v12, v0, cond_true, cond_false]) ?_)) (fun w' hw' => by first | exact hw' | (simp only [v12, v0, cond_true, cond_false]; exact hw'))
      · cases ho
        have h12 : e 12 = true := hd ⟨12, .data⟩ (by simp) rfl
        have v13 : Eng.upd e 13 13 = true := upd_eq
        have v12 : Eng.upd e 13 12 = true := upd_mono h12
        simp only [hei, h12, cond_true, cond_false]
        apply ofa; rfl; rfl; rfl
        apply OL.nil
        exact At.beside x (by repeat (first | exact Sub.nil | apply Sub.cons rfl | refine Sub.cons_eq rfl (by simp only [v13, v12, cond_true, cond_false]) ?_)) (fun w' hw' => by first | exact hw' | (simp only [v13, v12, cond_true, cond_false]; exact hw'))
      · cases ho
        have h11 : e 11 = true := hd ⟨11, .data⟩ (by simp) rfl
        have h13 : e 13 = true := hd ⟨13, .data⟩ (by simp) rfl
        have v14 : Eng.upd e 14 14 = true := upd_eq
        have v11 : Eng.upd e 14 11 = true := upd_mono h11
        have v13 : Eng.upd e 14 13 = true := upd_mono h13
        simp only [hei, h11, h13, cond_true, cond_false]
        apply OL.storeB; rfl; rfl; exact CellsL.one rfl; rfl; rfl; rfl; apply Swap.s; apply Swap.s; apply Swap.z; apply Put.skip; apply Put.skip; apply Put.here; apply Over.cons; apply Over.nil
        apply OL.nil
        exact At.beside x (by repeat (first | exact Sub.nil | apply Sub.cons rfl | refine Sub.cons_eq rfl (by simp only [v14, v11, v13, cond_true, cond_false]) ?_)) (fun w' hw' => by first | exact hw' | (simp only [v14, v11, v13, cond_true, cond_false]; exact hw'))
    · intro x e hall
      have hx1 := x.hb1
      have hfi : nts ((fiOf (dss l) 3).take (i + 1)) = nts ((fiOf (dss l) 3).take i) ++ [.int .i64 ((3 + bsum (dss l) i : Nat) : Int)] := by
        rw [List.take_add_one, fiOf_get (by rw [dss_length]; exact hil)]
        simp [nts]
      simp only [hall 0 (by decide), hall 1 (by decide), hall 2 (by decide), hall 3 (by decide), hall 4 (by decide), hall 5 (by decide), hall 6 (by decide), hall 7 (by decide), hall 8 (by decide), hall 9 (by decide), hall 10 (by decide), hall 11 (by decide), hall 12 (by decide), hall 13 (by decide), hall 14 (by decide), cond_true, cond_false, ← hfi]
      with_reducible apply At.next
      apply W.seq
      apply W.reg
      apply ofa; rfl; rfl; rfl
      apply old; rfl; rfl; apply List.Mem.tail; apply List.Mem.tail; exact .tail _ (.tail _ (.head _)); rfl; rfl
      apply omv; rfl; rfl
      apply OL.nil
      with_reducible apply At.next
      apply W.block
      refine W.loop (G := Nat × Loc) (fun g => g.1 ≤ d.params ∧ At3 g.2 B' bs' (.slice none 0 0) (.slice (some a) l.length cd) (.slice (some ⟨x.g1, 0, none⟩) (i + 1) x.c1)) (fun g => d.params - g.1)
        (fun g => [(0, true, .slice none 0 0), (1, true, .slice (some a) l.length cd), (7, true, .pointer (some ⟨bs', 0, none⟩)), (38, true, .slice (some a) l.length cd), (39, true, .int .i64 (l.length : Int)), (40, true, .int .i64 (i : Int)), (83, true, .int .i64 (d.params : Int)), (84, true, .int .i64 (g.1 : Int))])
        (fun g => Cls (g.2.items (3 + (bsum (dss l) i + g.1)) (sigN (bsum (dss l) i + g.1)) (row B' x.O1 (some ⟨x.g1, 0, none⟩) (i + 1) x.c1 3 1 (nts ((fiOf (dss l) 3).take (i + 1))) :: [])) [w]) (0, ⟨B', bs', .slice none 0 0, .slice (some a) l.length cd, .slice (some ⟨x.g1, 0, none⟩) (i + 1) x.c1, P1, q1, c1, P2, q2, c2⟩) ⟨by simp, rfl, rfl, rfl, rfl, rfl⟩ (by (repeat (first | exact Sub.nil | apply Sub.cons rfl | (refine Sub.cons_eq rfl (congrArg (Value.int .i64) (by first | omega | (simp only; omega))) ?_)))) (fun w' hw' => hw'.thin (.keep (.keep (.keep (.keep (.blk ⟨hbd, trivial⟩ (.blk x.hb1 Thin.same))))))) ?_
      rintro ⟨p, L⟩ ⟨hp, hL⟩
      simp only at hp hL ⊢
      apply W.seq
      apply W.reg
      apply obn; rfl; rfl; rfl; apply Bin.lss
      apply OL.nil
      with_reducible apply At.next
      apply W.seq
      (refine W.cond rfl (fun hlt2 => ?_) (fun hlt2 => ?_)) <;> (try (simp only [Bool.and_eq_true, Bool.or_eq_true, Bool.not_eq_true', Bool.and_eq_false_iff, Bool.or_eq_false_iff, Bool.not_eq_false', decide_eq_true_eq, decide_eq_false_iff_not, Int.not_lt, Int.not_le] at hlt2)) <;> (try (exfalso; first | omega | exact hlt2 trivial | contradiction))
      · have hjn := sigN_len (bsum (dss l) i + p)
        apply W.skip
        with_reducible apply At.next
        apply W.seq
        apply W.block
        apply W.reg
        apply omv; rfl; rfl
        refine OL.callE (α := Loc) (fun _ => .int .i64 ((3 + (bsum (dss l) i + p) : Nat) : Int)) (fun L' => At3 L' B' bs' (.slice none 0 0) (.slice (some a) l.length cd) (.slice (some ⟨x.g1, 0, none⟩) (i + 1) x.c1)) (fun L' => Cls (L'.items (3 + (bsum (dss l) i + p) + 1) (sigN (bsum (dss l) i + p + 1)) (row B' x.O1 (some ⟨x.g1, 0, none⟩) (i + 1) x.c1 3 1 (nts ((fiOf (dss l) 3).take (i + 1))) :: [])) [w]) rfl rfl (by (repeat (first | exact Args.nil | (apply Args.cons rfl; ((first | exact fun _ => rfl | exact fun h => h | (intro h; simp_all; done))))))) (fun w2 hw2 => ?_) ?_
        · have hs := slot_calls L (3 + (bsum (dss l) i + p)) (sigN (bsum (dss l) i + p)) (-1) _ [w] w2 hjn.1 hjn.2 (by omega) (by rw [hL.b]; exact hbS) (by rw [hL.b, hL.s]; exact hbs) hw2
          rw [hL.s] at hs
          exact hs.mono fun e w3 ⟨L', he, ⟨h1, h2, h3, h4, h5⟩, hcl⟩ => ⟨L', he, ⟨h1.trans hL.b, h2, h3.trans hL.h1, h4.trans hL.h2, h5.trans hL.h3⟩, hcl⟩
        intro L' hL'
        apply OL.nil
        with_reducible apply At.in_normal
        with_reducible apply At.next
        apply W.reg
        apply obn; rfl; rfl; rfl; apply Bin.add_in; omega
        apply omv; rfl; rfl
        apply OL.nil
        exact At.again (p + 1, L') ⟨by simp only; omega, hL'⟩ (by simp only; omega) (by (repeat (first | exact Sub.nil | apply Sub.cons rfl | (refine Sub.cons_eq rfl (congrArg (Value.int .i64) (by first | omega | (simp only; omega))) ?_)))) (fun w' hw' => hw')
      · obtain rfl : p = d.params := by omega
        rw [← hs1] at *
        apply W.exit
        with_reducible apply At.then_exit
        with_reducible apply At.then_exit
        with_reducible apply At.in_exit
        with_reducible apply At.in_normal
        with_reducible apply At.next
        apply W.reg
        apply obn; rfl; rfl; rfl; apply Bin.add_in; omega
        apply omv; rfl; rfl
        apply OL.nil
        exact At.again (i + 1, L, ⟨x.O1, some ⟨x.g1, 0, none⟩, x.c1⟩) ⟨by simp only; omega, hL⟩ (by simp only; omega) (by (repeat (first | exact Sub.nil | apply Sub.cons rfl | (refine Sub.cons_eq rfl (congrArg (Value.int .i64) (by first | omega | (simp only; omega))) ?_)))) (fun w' hw' => hw')
  · obtain rfl : i = l.length := by omega
    clear hlt
    have hfi : (fiOf (dss l) 3).take l.length = fiOf (dss l) 3 := List.take_of_length_le (by rw [fiOf_length, dss_length]; omega)
    have hM6 := hO.sum
    generalize hM : bsum (dss l) l.length = M at hM6
    rw [hfi]
    apply W.exit
    with_reducible apply At.then_exit
    with_reducible apply At.then_exit
    with_reducible apply At.in_exit
    with_reducible apply At.next
    apply W.seq
    apply W.seq
    apply W.reg
    apply omv; rfl; rfl
    apply OL.op; exact Guard.none; rfl; rfl; apply Pev.len_slice; rfl; exact yes; rfl
    apply omv; rfl; rfl
    apply OL.nil
    with_reducible apply At.next
    apply W.block
    obtain ⟨B', bs', k1, k2, k3, P1, q1, c1, P2, q2, c2⟩ := L
    have hLb := hL.b
    have hLs := hL.s
    have hL1 := hL.h1
    have hL2 := hL.h2
    have hL3 := hL.h3
    simp only at hLb hLs hL1 hL2 hL3
    clear hL
    subst hLb hLs
    have hfl : (fiOf (dss l) 3).length = l.length := by rw [fiOf_length, dss_length]
    have hR : Rd B' w [] (dss l) (fiOf (dss l) 3) ⟨Of, qf, cf⟩ ⟨B', bs', k1, k2, k3, P1, q1, c1, P2, q2, c2⟩ := by
      refine ⟨by omega, rfl, hbs, ⟨by simp, none, 0, hL1, SlAt.nil⟩, ⟨by rw [dss_length]; exact hlen, qd, cd, by rw [dss_length]; exact hL2, by rw [← hB]; exact h.ds⟩, ⟨by rw [hfl, dss_length], by rw [hfl]; exact hL3⟩, fun d hd => ?_, fun f hf => ?_⟩
      · obtain ⟨e, he, rfl⟩ := List.mem_map.1 hd
        have := hO.par e he
        show e.params ≤ 4096
        omega
      · obtain ⟨j, hj⟩ := List.getElem?_of_mem hf
        have hjl := (List.getElem?_eq_some_iff.1 hj).1
        rw [fiOf_length] at hjl
        rw [fiOf_get hjl] at hj
        have := bsum_mono (ds := dss l) (i := j) (j := (dss l).length) (by omega) (Nat.le_refl _)
        rw [dss_length, hM] at this
        have := Option.some.inj hj
        omega
    refine W.loop (G := Nat × Sol) (fun g => g.1 ≤ l.length ∧ Inv g.2 ∧ g.2.up.length = 3 + M ∧ ∀ f, (Sat g.2 f ∧ rD (dss l) f g.1 (l.drop g.1) = true) ↔ (Sat (sigN M) f ∧ rD (dss l) f 0 l = true)) (fun g => l.length - g.1)
      (fun g => [(1, true, .slice qd l.length cd), (7, true, .pointer (some ⟨bs', 0, none⟩)), (90, true, .slice qd l.length cd), (91, true, .int .i64 (l.length : Int)), (92, true, .int .i64 (g.1 : Int))])
      (fun g => Cls (row B' P1 q1 (3 + M) c1 3 1 (nts (g.2).up) :: row B' P2 q2 (3 + M) c2 3 1 (ins (g.2).kind) :: blk bs' 64 [k1, k2, k3, .slice q1 (3 + M) c1, .slice q2 (3 + M) c2] :: (row B' Of qf l.length cf 3 1 (nts (fiOf (dss l) 3)) :: [])) [w]) (0, sigN M) ⟨by simp, sigN_inv M, (sigN_len M).1, fun f => by simp⟩ (by (repeat (first | exact Sub.nil | apply Sub.cons rfl | (refine Sub.cons_eq rfl (congrArg (Value.int .i64) (by first | omega | (simp only; omega))) ?_)))) (fun w' hw' => hw') ?_
    rintro ⟨i, σ⟩ ⟨hi2, hinv, hsl, hS⟩
    simp only at hi2 hinv hsl hS ⊢
    apply W.seq
    apply W.reg
    apply obn; rfl; rfl; rfl; apply Bin.lss
    apply OL.nil
    with_reducible apply At.next
    apply W.seq
    (refine W.cond rfl (fun hlt => ?_) (fun hlt => ?_)) <;> (try (simp only [Bool.and_eq_true, Bool.or_eq_true, Bool.not_eq_true', Bool.and_eq_false_iff, Bool.or_eq_false_iff, Bool.not_eq_false', decide_eq_true_eq, decide_eq_false_iff_not, Int.not_lt, Int.not_le] at hlt)) <;> (try (exfalso; first | omega | exact hlt trivial | contradiction))
    · have hil : i < l.length := by omega
      obtain ⟨d, hd, hd2, hs1, hs2⟩ := hdget hil
      have hdm := List.mem_of_getElem? hd
      obtain ⟨a, rfl, hab, hcd⟩ := hcell hd
      have hbn1 := (hO.bnd d hdm).1
      simp only [rD_drop hd] at hS
      have hpar := fun (H : List Eng.Item) (w2 : World) => params_calls B' B' w [] (dss l) (fiOf (dss l) 3) ⟨Of, qf, cf⟩ ⟨B', bs', k1, k2, k3, P1, q1, c1, P2, q2, c2⟩ (3 + M) σ H [] w2 d.nm hR (Nat.le_refl _) hbS
      have hown : psF [] d.nm (dss l) (fiOf (dss l) 3) = some (slotsOf (dss l) i) := psF_own hd2 (fun j e hj he => by
        obtain ⟨e', he', rfl⟩ : ∃ e', l[j]? = some e' ∧ e = e'.ds := by
          simp only [dss, List.getElem?_map] at he
          cases hx : l[j]? with
          | none => simp [hx] at he
          | some y => simp [hx] at he; exact ⟨y, rfl, he.symm⟩
        exact hO.dis i j d e' hj hd he')
      rw [hown] at hpar
      simp only [ri, hfl, Loc.items, Loc.cells, Option.getD_some, Option.isSome_some] at hpar
      have hvl := slotsOf_length hd
      have hvlt : ∀ x ∈ slotsOf (dss l) i, x < 3 + M := fun x hx => by rw [← hM]; exact slotsOf_lt hd hx
      apply W.skip
      with_reducible apply At.next
      apply W.seq
      apply W.block
      apply W.seq
      apply W.reg
      apply omv; rfl; rfl
      apply OL.op; exact Guard.none; rfl; rfl; apply Pev.idx; rfl; exact yes; rfl; exact yes; rfl; rfl; intro hcond; omega
      apply OL.op; exact Guard.none; rfl; rfl; apply Pev.load_keptA; rfl; exact yes; exact .head _; rfl; intro hcond; assumption; rfl; intro hcond; (rw [add_block]; assumption); intro hcond; simp only [add_block]; refine NotOwned.row (by omega) ?_; refine NotOwned.row (by omega) ?_; refine NotOwned.blk (by omega) ?_; refine NotOwned.row (by omega) ?_; exact NotOwned.nil
      apply OL.alloc; rfl; rfl; exact CellsL.agg; (intro bk hbk; simp only [AllLe, and_true] at hbk)
      apply oas; rfl; rfl
      apply OL.storeB; rfl; rfl; exact CellsL.agg; rfl; rfl; rfl; apply Swap.z; apply Put.here; apply Over.cons; apply Over.cons; apply Over.cons; apply Over.nil
      apply OL.nil
      with_reducible apply At.next
      apply W.seq
      apply W.reg
      apply omv; rfl; rfl
      apply omv; rfl; rfl
      apply omv; rfl; rfl
      apply OL.op; exact Guard.none; rfl; rfl; apply Pev.idx; rfl; exact yes; rfl; exact yes; rfl; rfl; intro hcond; omega
      apply OL.op; exact Guard.none; rfl; rfl; apply Pev.fldA; rfl; exact yes; rfl
      apply OL.op; exact Guard.none; rfl; rfl; apply Pev.load_kept; rfl; exact yes; exact .head _; rfl; intro hcond; apply CellsAt.at_ (by assumption) rfl; intro hcond; (simp only [add_block]; assumption); intro hcond; simp only [add_block]; refine NotOwned.blk (by omega) ?_; refine NotOwned.row (by omega) ?_; refine NotOwned.row (by omega) ?_; refine NotOwned.blk (by omega) ?_; refine NotOwned.row (by omega) ?_; exact NotOwned.nil
      revert bk
      intro bd hbd
      refine OL.cls (fun w' hw' => Cls.mid (A := [_]) (I := [_, _, _, _]) (H := []) hw') ?_
      simp only [List.cons_append, List.nil_append]
      skip
      refine OL.callE (α := GP) (fun g => .tuple #[.slice g.q (slotsOf (dss l) i).length g.c, .bool true]) (fun _ => True) (fun g => Cls (row B' g.O g.q (slotsOf (dss l) i).length g.c 3 1 (nts (slotsOf (dss l) i)) :: row B' P1 q1 (3 + M) c1 3 1 (nts (σ).up) :: row B' P2 q2 (3 + M) c2 3 1 (ins (σ).kind) :: blk bs' 64 [k1, k2, k3, .slice q1 (3 + M) c1, .slice q2 (3 + M) c2] :: (row B' Of qf l.length cf 3 1 (nts (fiOf (dss l) 3)) :: blk bd 38 [.string d.nm, .int .i64 (d.params : Int), .slice d.q d.cons.length d.cap] :: [])) [w]) rfl rfl (by (repeat (first | exact Args.nil | (apply Args.cons rfl; ((first | exact fun _ => rfl | exact fun h => h | (intro h; simp_all; done))))))) (fun w2 hw2 => ?_) ?_
      · exact (hpar _ w2 (fun k hk => by (focus ((try simp only [add_block]); (repeat (first | exact NotOwned.nil | exact hno _ (by omega) | refine NotOwned.nothing ?_ | refine NotOwned.nds (hlow _ (by omega)) ?_ | refine NotOwned.mapS (by omega) ?_ | apply NotOwned.bif | refine NotOwned.blk (by omega) ?_ | refine NotOwned.row (by omega) ?_ | refine NotOwned.grid (by assumption) (by omega) ?_ | refine NotOwned.pile (by omega) ?_)); done))) hw2).mono fun e w3 ⟨g, h1, h2⟩ => ⟨g, h1, trivial, h2⟩
      rintro ⟨Ov, qv, cv⟩ -
      simp only
      clear hpar
      generalize hvs : slotsOf (dss l) i = vs at *
      apply omv; rfl; rfl
      apply oex; rfl; rfl; rfl
      apply oex; rfl; rfl; rfl
      apply oas; rfl; rfl
      apply oas; rfl; rfl
      apply OL.nil
      with_reducible apply At.next
      apply W.seq
      apply W.reg
      apply ofa; rfl; rfl; rfl
      apply old; rfl; rfl; apply List.Mem.tail; apply List.Mem.tail; apply List.Mem.tail; exact .tail _ (.tail _ (.head _)); rfl; rfl
      apply OL.op; exact Guard.none; rfl; rfl; apply Pev.len_slice; rfl; exact yes; rfl
      apply omv; rfl; rfl
      apply OL.nil
      with_reducible apply At.next
      apply W.block
      refine W.loop (G := Nat × Sol) (fun g => g.1 ≤ d.cons.length ∧ Inv g.2 ∧ g.2.up.length = 3 + M ∧ ∀ f, (Sat g.2 f ∧ (rC (dss l) f i (d.cons.drop g.1) && rD (dss l) f (i + 1) (l.drop (i + 1))) = true) ↔ (Sat (sigN M) f ∧ rD (dss l) f 0 l = true)) (fun g => d.cons.length - g.1)
        (fun g => [(1, true, .slice (some a) l.length cd), (7, true, .pointer (some ⟨bs', 0, none⟩)), (14, true, .slice qv vs.length cv), (90, true, .slice (some a) l.length cd), (91, true, .int .i64 (l.length : Int)), (92, true, .int .i64 (i : Int)), (108, true, .slice d.q d.cons.length d.cap), (109, true, .int .i64 (d.cons.length : Int)), (110, true, .int .i64 (g.1 : Int))])
        (fun g => Cls (row B' P1 q1 (3 + M) c1 3 1 (nts (g.2).up) :: row B' P2 q2 (3 + M) c2 3 1 (ins (g.2).kind) :: blk bs' 64 [k1, k2, k3, .slice q1 (3 + M) c1, .slice q2 (3 + M) c2] :: (row B' Of qf l.length cf 3 1 (nts (fiOf (dss l) 3)) :: row B' Ov qv vs.length cv 3 1 (nts vs) :: [])) [w]) (0, σ) ⟨by simp, hinv, hsl, hS⟩ (by (repeat (first | exact Sub.nil | apply Sub.cons rfl | (refine Sub.cons_eq rfl (congrArg (Value.int .i64) (by first | omega | (simp only; omega))) ?_)))) (fun w' hw' => Cls.mid (A := [_]) (I := [_, _, _, _]) (H := []) (hw'.thin (.keep (.keep (.keep (.keep (.keep (.blk ⟨hbd, trivial⟩ Thin.same)))))))) ?_
      clear hS hinv hsl
      rintro ⟨j, σ⟩ ⟨hj2, hinv, hsl, hS⟩
      simp only at hj2 hinv hsl hS ⊢
      apply W.seq
      apply W.reg
      apply obn; rfl; rfl; rfl; apply Bin.lss
      apply OL.nil
      with_reducible apply At.next
      apply W.seq
      (refine W.cond rfl (fun hlt3 => ?_) (fun hlt3 => ?_)) <;> (try (simp only [Bool.and_eq_true, Bool.or_eq_true, Bool.not_eq_true', Bool.and_eq_false_iff, Bool.or_eq_false_iff, Bool.not_eq_false', decide_eq_true_eq, decide_eq_false_iff_not, Int.not_lt, Int.not_le] at hlt3)) <;> (try (exfalso; first | omega | exact hlt3 trivial | contradiction))
      · have hjl : j < d.cons.length := by omega
        obtain ⟨ac, c, hqc, hacb, hc, hcc⟩ := SlAt.elem (h.co d hdm) coc_len (by decide) hjl
        have hcc : CellsAt w (ac.add (j * 2)) [.string c.nm, .slice c.q c.args.length c.cap] := hcc
        have hcm := List.mem_of_getElem? hc
        have hbn2 := (hO.bnd d hdm).2 c hcm
        rw [hqc]
        simp only [rC_drop hc] at hS
        apply W.skip
        with_reducible apply At.next
        apply W.seq
        apply W.block
        apply W.seq
        apply W.reg
        apply OL.op; exact Guard.none; rfl; rfl; apply Pev.idx; rfl; exact yes; rfl; exact yes; rfl; rfl; intro hcond; omega
        apply OL.op; exact Guard.none; rfl; rfl; apply Pev.load_keptA; rfl; exact yes; exact .head _; rfl; intro hcond; assumption; rfl; intro hcond; (rw [add_block]; assumption); intro hcond; simp only [add_block]; refine NotOwned.row (by omega) ?_; refine NotOwned.row (by omega) ?_; refine NotOwned.blk (by omega) ?_; refine NotOwned.row (by omega) ?_; refine NotOwned.row (by omega) ?_; exact NotOwned.nil
        apply OL.alloc; rfl; rfl; exact CellsL.agg; (intro bk hbk; simp only [AllLe, and_true] at hbk)
        apply OL.storeB; rfl; rfl; exact CellsL.agg; rfl; rfl; rfl; apply Swap.z; apply Put.here; apply Over.cons; apply Over.cons; apply Over.nil
        apply OL.nil
        with_reducible apply At.next
        apply W.seq
        apply W.reg
        apply ofa; rfl; rfl; rfl
        apply old; rfl; rfl; exact .head _; rfl; rfl
        apply OL.op; exact Guard.none; rfl; rfl; apply Pev.len_slice; rfl; exact yes; rfl
        apply omv; rfl; rfl
        apply OL.nil
        with_reducible apply At.next
        apply W.block
        revert bk
        intro bc hbc
        skip
        refine W.loop (G := Nat × Sol) (fun g => g.1 ≤ c.args.length ∧ Inv g.2 ∧ g.2.up.length = 3 + M ∧ ∀ f, (Sat g.2 f ∧ ((rA (dss l) f i (c.args.drop g.1) && rC (dss l) f i (d.cons.drop (j + 1))) && rD (dss l) f (i + 1) (l.drop (i + 1))) = true) ↔ (Sat (sigN M) f ∧ rD (dss l) f 0 l = true)) (fun g => c.args.length - g.1)
          (fun g => [(1, true, .slice (some a) l.length cd), (7, true, .pointer (some ⟨bs', 0, none⟩)), (14, true, .slice qv vs.length cv), (90, true, .slice (some a) l.length cd), (91, true, .int .i64 (l.length : Int)), (92, true, .int .i64 (i : Int)), (108, true, .slice (some ac) d.cons.length d.cap), (109, true, .int .i64 (d.cons.length : Int)), (110, true, .int .i64 (j : Int)), (115, true, .slice c.q c.args.length c.cap), (116, true, .int .i64 (c.args.length : Int)), (117, true, .int .i64 (g.1 : Int))])
          (fun g => Cls (row B' P1 q1 (3 + M) c1 3 1 (nts (g.2).up) :: row B' P2 q2 (3 + M) c2 3 1 (ins (g.2).kind) :: blk bs' 64 [k1, k2, k3, .slice q1 (3 + M) c1, .slice q2 (3 + M) c2] :: (row B' Of qf l.length cf 3 1 (nts (fiOf (dss l) 3)) :: row B' Ov qv vs.length cv 3 1 (nts vs) :: [])) [w]) (0, σ) ⟨by simp, hinv, hsl, hS⟩ (by (repeat (first | exact Sub.nil | apply Sub.cons rfl | (refine Sub.cons_eq rfl (congrArg (Value.int .i64) (by first | omega | (simp only; omega))) ?_)))) (fun w' hw' => hw'.thin (.blk ⟨hbc, trivial⟩ Thin.same)) ?_
        clear hS hinv hsl
        rintro ⟨k, σ⟩ ⟨hk2, hinv, hsl, hS⟩
        simp only at hk2 hinv hsl hS ⊢
        apply W.seq
        apply W.reg
        apply obn; rfl; rfl; rfl; apply Bin.lss
        apply OL.nil
        with_reducible apply At.next
        apply W.seq
        (refine W.cond rfl (fun hlt4 => ?_) (fun hlt4 => ?_)) <;> (try (simp only [Bool.and_eq_true, Bool.or_eq_true, Bool.not_eq_true', Bool.and_eq_false_iff, Bool.or_eq_false_iff, Bool.not_eq_false', decide_eq_true_eq, decide_eq_false_iff_not, Int.not_lt, Int.not_le] at hlt4)) <;> (try (exfalso; first | omega | exact hlt4 trivial | contradiction))
        · have hkl : k < c.args.length := by omega
          obtain ⟨aa, p, hqa, haab, hp, hcp⟩ := SlAt.elem (h.ar d hdm c hcm) tcc_len (by decide) hkl
          have hcp : CellsAt w (aa.add (k * 4)) [.int .i64 p.t.kind, .string p.t.name, .int .i64 p.t.var, .slice p.q p.t.args.length p.cap] := hcp
          have hpm := List.mem_of_getElem? hp
          obtain ⟨ht0, hrow0⟩ := hO.typ d hdm c hcm p hpm
          have hty := h.ty d hdm c hcm p hpm
          have hC : Cond p.t 0 := ⟨false, wf_of p.t false 1 0 ht0 hrow0 (.inl (kind_le ht0)), fun h => by cases h⟩
          rw [hqa]
          simp only [rA_drop hp] at hS
          apply W.skip
          with_reducible apply At.next
          apply W.seq
          apply W.block
          apply W.seq
          apply W.reg
          apply OL.op; exact Guard.none; rfl; rfl; apply Pev.idx; rfl; exact yes; rfl; exact yes; rfl; rfl; intro hcond; omega
          apply OL.op; exact Guard.none; rfl; rfl; apply Pev.load_keptA; rfl; exact yes; exact .head _; rfl; intro hcond; assumption; rfl; intro hcond; (rw [add_block]; assumption); intro hcond; simp only [add_block]; refine NotOwned.row (by omega) ?_; refine NotOwned.row (by omega) ?_; refine NotOwned.blk (by omega) ?_; refine NotOwned.row (by omega) ?_; refine NotOwned.row (by omega) ?_; exact NotOwned.nil
          apply OL.alloc; rfl; rfl; exact CellsL.agg; (intro bk hbk; simp only [AllLe, and_true] at hbk)
          apply OL.storeB; rfl; rfl; exact CellsL.agg; rfl; rfl; rfl; apply Swap.z; apply Put.here; apply Over.cons; apply Over.cons; apply Over.cons; apply Over.cons; apply Over.nil
          apply OL.nil
          with_reducible apply At.next
          apply W.seq
          apply W.seq
          apply W.reg
          apply OL.op; exact Guard.none; rfl; rfl; apply Pev.load_blkA; rfl; exact yes; exact .head _; rfl; apply Take.succ; apply Take.succ; apply Take.succ; apply Take.succ; apply Take.zero
          revert bk
          intro bt hbt
          refine OL.cls (fun w' hw' => Cls.mid (A := [_]) (I := [_, _, _, _, _]) (H := []) hw') ?_
          simp only [List.cons_append, List.nil_append]
          skip
          (((first | (with_reducible apply OL.op) | (with_reducible apply QL.op)); ((first | exact Guard.none | exact Guard.yes rfl rfl | exact Guard.no rfl rfl | exact Guard.cyes rfl rfl | exact Guard.cno rfl rfl)); rfl; rfl); (refine Pev.call (v := .int .i64 0) rfl (by (repeat (first | exact Args.nil | (apply Args.cons rfl; ((first | exact fun _ => rfl | exact fun h => h | (intro h; simp_all; done))))))) (fun _ w2 hw2 => ?_)))
          · have hbel := hw2.below (s := w) (.head _) (Nat.le_refl _) (fun k hk => by (focus ((try simp only [add_block]); (repeat (first | exact NotOwned.nil | exact hno _ (by omega) | refine NotOwned.nothing ?_ | refine NotOwned.nds (hlow _ (by omega)) ?_ | refine NotOwned.mapS (by omega) ?_ | apply NotOwned.bif | refine NotOwned.blk (by omega) ?_ | refine NotOwned.row (by omega) ?_ | refine NotOwned.grid (by assumption) (by omega) ?_ | refine NotOwned.pile (by omega) ?_)); done)))
            have hsz := (hw2.kp w (.head _)).size
            have hk := Go.Proofs.YtaponemcbnnebaaDoor.uv.Check_calls p.t (tcc p) w2 (TyC.keep hbel hsz hty) (by omega) (hs.keep hg hbel)
            rw [ht0] at hk
            exact hk.mono (fun e w3 h => ⟨h.1, hw2.ext h.2⟩)
          apply oas; rfl; rfl
          apply OL.nil
          with_reducible apply At.next
          apply W.seq
          apply W.reg
          apply omv; rfl; rfl
          apply obn; rfl; rfl; rfl; apply Bin.neq
          apply OL.nil
          with_reducible apply At.next
          refine W.cond rfl (fun hb => by simp at hb) (fun _ => ?_)
          apply W.skip
          with_reducible apply At.next
          apply W.seq
          apply W.reg
          apply omv; rfl; rfl
          apply OL.op; exact Guard.none; rfl; rfl; apply Pev.load_blkA; rfl; exact yes; apply List.Mem.tail; apply List.Mem.tail; apply List.Mem.tail; exact .tail _ (.tail _ (.head _)); rfl; apply Take.succ; apply Take.succ; apply Take.succ; apply Take.succ; apply Take.zero
          apply omv; rfl; rfl
          refine OL.callE (α := Int × Sol) (fun x => .int .i64 x.1) (fun g => Wanted (Cond p.t 0) (pkF [] (dss l) (fiOf (dss l) 3)) vs σ p.t 0 g.1 g.2) (fun g => Cls (row B' P1 q1 (3 + M) c1 3 1 (nts (g.2).up) :: row B' P2 q2 (3 + M) c2 3 1 (ins (g.2).kind) :: blk bs' 64 [k1, k2, k3, .slice q1 (3 + M) c1, .slice q2 (3 + M) c2] :: (row B' Of qf l.length cf 3 1 (nts (fiOf (dss l) 3)) :: row B' Ov qv vs.length cv 3 1 (nts vs) :: blk bt 24 [.int .i64 p.t.kind, .string p.t.name, .int .i64 p.t.var, .slice p.q p.t.args.length p.cap] :: [])) [w]) rfl rfl (by (repeat (first | exact Args.nil | (apply Args.cons rfl; ((first | exact fun _ => rfl | exact fun h => h | (intro h; simp_all; done))))))) (fun w2 hw2 => ?_) ?_
          · have hww := want_calls B' (3 + M) w [] (dss l) (fiOf (dss l) 3) vs ⟨Of, qf, cf⟩ ⟨Ov, qv, cv⟩ ⟨B', bs', k1, k2, k3, P1, q1, c1, P2, q2, c2⟩ hR (by have := hO.par d hdm; omega) hvlt (fun nm lx hlx => by
              obtain ⟨i2, e, he, rfl⟩ := psF_at _ _ hlx
              have hb1 := bsum_succ he
              have hb2 := bsum_mono (ds := dss l) (i := i2 + 1) (j := (dss l).length) (by have := (List.getElem?_eq_some_iff.1 he).1; omega) (Nat.le_refl _)
              rw [dss_length, hM] at hb2
              refine ⟨fun s hs => ?_, by rw [List.length_map, List.length_range]; omega⟩
              obtain ⟨y, hy, rfl⟩ := List.mem_map.1 hs
              have := List.mem_range.1 hy
              omega) _ p 0 σ [blk bt 24 [.int .i64 p.t.kind, .string p.t.name, .int .i64 p.t.var, .slice p.q p.t.args.length p.cap]] [] w2 (Nat.le_refl _) (by rw [← hB]; exact hty) (wg_of _ _ _ _ ht0) (by omega) hinv hsl (fun k hk => by (focus ((try simp only [add_block]); (repeat (first | exact NotOwned.nil | exact hno _ (by omega) | refine NotOwned.nothing ?_ | refine NotOwned.nds (hlow _ (by omega)) ?_ | refine NotOwned.mapS (by omega) ?_ | apply NotOwned.bif | refine NotOwned.blk (by omega) ?_ | refine NotOwned.row (by omega) ?_ | refine NotOwned.grid (by assumption) (by omega) ?_ | refine NotOwned.pile (by omega) ?_)); done)))
            simp only [ri, hfl, Loc.items, Loc.cells] at hww
            exact (hww hw2).mono fun e w3 ⟨er, σ', h1, h2, h3⟩ => ⟨(er, σ'), h1, h2, h3⟩
          rintro ⟨er, σ2⟩ hW
          simp only at hW ⊢
          apply oas; rfl; rfl
          apply OL.nil
          with_reducible apply At.next
          apply W.seq
          apply W.reg
          apply omv; rfl; rfl
          apply obn; rfl; rfl; rfl; apply Bin.neq
          apply OL.nil
          with_reducible apply At.next
          (refine W.cond rfl (fun hee => ?_) (fun hee => ?_)) <;> (try (simp only [Bool.and_eq_true, Bool.or_eq_true, Bool.not_eq_true', Bool.and_eq_false_iff, Bool.or_eq_false_iff, Bool.not_eq_false', decide_eq_true_eq, decide_eq_false_iff_not, Int.not_lt, Int.not_le] at hee)) <;> (try (exfalso; first | omega | exact hee trivial | contradiction))
          · apply W.seq
            apply W.reg
            apply omv; rfl; rfl
            apply oas; rfl; rfl
            apply oas; rfl; rfl
            apply OL.nil
            with_reducible apply At.next
            apply W.ret
            with_reducible apply At.in_ret
            with_reducible apply At.then_ret
            with_reducible apply At.then_ret
            with_reducible apply At.in_ret
            with_reducible apply At.in_ret
            with_reducible apply At.then_ret
            with_reducible apply At.then_ret
            with_reducible apply At.in_ret
            with_reducible apply At.in_ret
            with_reducible apply At.then_ret
            with_reducible apply At.then_ret
            with_reducible apply At.in_ret
            with_reducible apply At.then_ret
            ((with_reducible apply At.fin2); rfl; rfl; rfl; intro w' hw')
            refine ⟨er, none, 0, [], rfl, ⟨fun _ => ⟨(hW.bad hC hee).1, rfl, fun f hf => ?_⟩, fun h0 => absurd h0 hee⟩, by (exact hw'.toExt (by (repeat (first | exact List.Mem.head _ | apply List.Mem.tail))) (fun k hk => by (focus ((try simp only [add_block]); (repeat (first | exact NotOwned.nil | exact hno _ (by omega) | refine NotOwned.nothing ?_ | refine NotOwned.nds (hlow _ (by omega)) ?_ | refine NotOwned.mapS (by omega) ?_ | apply NotOwned.bif | refine NotOwned.blk (by omega) ?_ | refine NotOwned.row (by omega) ?_ | refine NotOwned.grid (by assumption) (by omega) ?_ | refine NotOwned.pile (by omega) ?_)); done)))), SlAt.nil, by simp⟩
            rw [hM] at hf
            cases hrd : rD (dss l) f 0 l with
            | false => rfl
            | true =>
              have h1 := (hS f).2 ⟨hf, hrd⟩
              have h2 := (hW.bad hC hee).2 f h1.1
              simp only [hvs, h2, Bool.false_and, Bool.false_eq_true, and_false] at h1
          subst hee
          apply W.skip
          with_reducible apply At.in_normal
          with_reducible apply At.next
          apply W.reg
          apply obn; rfl; rfl; rfl; apply Bin.add_in; omega
          apply omv; rfl; rfl
          apply OL.nil
          refine At.again (k + 1, σ2) ⟨by simp only; omega, hW.inv, hW.len.trans hsl, fun f => ?_⟩ (by simp only; omega) (by (repeat (first | exact Sub.nil | apply Sub.cons rfl | (refine Sub.cons_eq rfl (congrArg (Value.int .i64) (by first | omega | (simp only; omega))) ?_)))) (fun w' hw' => hw'.thin (.keep (.keep (.keep (.keep (.keep (.blk ⟨hbt, trivial⟩ Thin.same)))))))
          have h1 := hS f
          rw [hW.ok hC rfl f]
          simp only [hvs, Bool.and_eq_true, and_assoc] at h1 ⊢
          exact h1
        · obtain rfl : k = c.args.length := by omega
          have hS2 : ∀ f, (Sat σ f ∧ (rC (dss l) f i (d.cons.drop (j + 1)) && rD (dss l) f (i + 1) (l.drop (i + 1))) = true) ↔ (Sat (sigN M) f ∧ rD (dss l) f 0 l = true) := fun f => by
            have h1 := hS f
            rw [List.drop_eq_nil_of_le (Nat.le_refl _)] at h1
            exact h1
          apply W.exit
          with_reducible apply At.then_exit
          with_reducible apply At.then_exit
          with_reducible apply At.in_exit
          with_reducible apply At.in_normal
          with_reducible apply At.next
          apply W.reg
          apply obn; rfl; rfl; rfl; apply Bin.add_in; omega
          apply omv; rfl; rfl
          apply OL.nil
          exact At.again (j + 1, σ) ⟨by simp only; omega, hinv, hsl, hS2⟩ (by simp only; omega) (by (repeat (first | exact Sub.nil | apply Sub.cons rfl | (refine Sub.cons_eq rfl (congrArg (Value.int .i64) (by first | omega | (simp only; omega))) ?_)))) (fun w' hw' => hw')
      · obtain rfl : j = d.cons.length := by omega
        have hS2 : ∀ f, (Sat σ f ∧ rD (dss l) f (i + 1) (l.drop (i + 1)) = true) ↔ (Sat (sigN M) f ∧ rD (dss l) f 0 l = true) := fun f => by
          have h1 := hS f
          rw [List.drop_eq_nil_of_le (Nat.le_refl _)] at h1
          exact h1
        apply W.exit
        with_reducible apply At.then_exit
        with_reducible apply At.then_exit
        with_reducible apply At.in_exit
        with_reducible apply At.in_normal
        with_reducible apply At.next
        apply W.reg
        apply obn; rfl; rfl; rfl; apply Bin.add_in; omega
        apply omv; rfl; rfl
        apply OL.nil
        exact At.again (i + 1, σ) ⟨by simp only; omega, hinv, hsl, hS2⟩ (by simp only; omega) (by (repeat (first | exact Sub.nil | apply Sub.cons rfl | (refine Sub.cons_eq rfl (congrArg (Value.int .i64) (by first | omega | (simp only; omega))) ?_)))) (fun w' hw' => hw'.thin (.keep (.keep (.keep (.keep (.any (fun k hk => ⟨by have := hk.1; omega, trivial⟩) Thin.nil))))))
    · obtain rfl : i = l.length := by omega
      have hS2 : ∀ f, Sat σ f ↔ (Sat (sigN M) f ∧ rD (dss l) f 0 l = true) := fun f => by
        have h1 := hS f
        rw [List.drop_eq_nil_of_le (Nat.le_refl _), rD] at h1
        simpa using h1
      clear hS
      apply W.exit
      with_reducible apply At.then_exit
      with_reducible apply At.then_exit
      with_reducible apply At.in_exit
      with_reducible apply At.next
      apply W.seq
      apply W.reg
      apply OL.buildSlice; rfl; rfl; rfl; apply Elems.nil; rfl; rfl; (intro bk hbk; simp only [AllLe, and_true] at hbk)
      apply oas; rfl; rfl
      apply OL.nil
      with_reducible apply At.next
      apply W.seq
      apply W.seq
      apply W.reg
      apply omv; rfl; rfl
      apply OL.op; exact Guard.none; rfl; rfl; apply Pev.len_slice; rfl; exact yes; rfl
      apply omv; rfl; rfl
      apply OL.nil
      with_reducible apply At.next
      apply W.block
      refine W.cls (fun w' hw' => Cls.mid (A := [_]) (I := [_, _, _, _]) (H := []) (Cls.blk_row (base := B') (m := 0) (sz := 2) hw' (by omega) rfl (by decide))) ?_
      simp only [List.cons_append, List.nil_append]
      refine W.loop (G := Nat × GP × (Nat → Prop) × List KR) (fun g => g.1 ≤ l.length ∧ g.2.2.2.length = g.1 ∧ RowsOk σ l g.2.2.2) (fun g => l.length - g.1)
        (fun g => [(7, true, .pointer (some ⟨bs', 0, none⟩)), (22, true, .slice g.2.1.q g.1 g.2.1.c), (137, true, .slice qd l.length cd), (138, true, .int .i64 (l.length : Int)), (139, true, .int .i64 (g.1 : Int))])
        (fun g => Cls (row B' P1 q1 (3 + M) c1 3 1 (nts (σ).up) :: row B' P2 q2 (3 + M) c2 3 1 (ins (σ).kind) :: blk bs' 64 [k1, k2, k3, .slice q1 (3 + M) c1, .slice q2 (3 + M) c2] :: (row B' Of qf l.length cf 3 1 (nts (fiOf (dss l) 3)) :: row B' g.2.1.O g.2.1.q g.1 g.2.1.c 34 2 (cat krc g.2.2.2) :: pile B' g.2.2.1 (g.2.2.2.map KR.sl) :: [])) [w]) (0, ⟨(fun k => k = bk), some ⟨bk, 0, none⟩, 0⟩, (fun _ => False), []) ⟨by simp, rfl, fun j kr hj => by simp at hj⟩ (by (repeat (first | exact Sub.nil | apply Sub.cons rfl | (refine Sub.cons_eq rfl (congrArg (Value.int .i64) (by first | omega | (simp only; omega))) ?_)))) (fun w' hw' => ?_) ?_
      · exact Cls.mid (A := [_]) (I := [_, _, _, _, _]) (H := []) (hw'.pile_nil B')
      rintro ⟨i, ⟨Oo, qo, co⟩, Op, rows⟩ ⟨hi2, hrl, hrok⟩
      simp only at hi2 hrl hrok ⊢
      apply W.seq
      apply W.reg
      apply obn; rfl; rfl; rfl; apply Bin.lss
      apply OL.nil
      with_reducible apply At.next
      apply W.seq
      (refine W.cond rfl (fun hlt => ?_) (fun hlt => ?_)) <;> (try (simp only [Bool.and_eq_true, Bool.or_eq_true, Bool.not_eq_true', Bool.and_eq_false_iff, Bool.or_eq_false_iff, Bool.not_eq_false', decide_eq_true_eq, decide_eq_false_iff_not, Int.not_lt, Int.not_le] at hlt)) <;> (try (exfalso; first | omega | exact hlt trivial | contradiction))
      · have hil : i < l.length := by omega
        obtain ⟨d, hd, hd2, hs1, hs2⟩ := hdget hil
        have hdm := List.mem_of_getElem? hd
        obtain ⟨a, rfl, hab, hcd⟩ := hcell hd
        apply W.skip
        with_reducible apply At.next
        apply W.seq
        apply W.block
        apply W.seq
        apply W.reg
        apply omv; rfl; rfl
        apply OL.op; exact Guard.none; rfl; rfl; apply Pev.idx; rfl; exact yes; rfl; exact yes; rfl; rfl; intro hcond; omega
        apply OL.op; exact Guard.none; rfl; rfl; apply Pev.load_keptA; rfl; exact yes; exact .head _; rfl; intro hcond; assumption; rfl; intro hcond; (rw [add_block]; assumption); intro hcond; simp only [add_block]; refine NotOwned.row (by omega) ?_; refine NotOwned.row (by omega) ?_; refine NotOwned.blk (by omega) ?_; refine NotOwned.row (by omega) ?_; refine NotOwned.row (by omega) ?_; refine NotOwned.pile (by omega) ?_; exact NotOwned.nil
        apply OL.alloc; rfl; rfl; exact CellsL.agg; (intro bk hbk; simp only [AllLe, and_true] at hbk)
        apply oas; rfl; rfl
        apply OL.storeB; rfl; rfl; exact CellsL.agg; rfl; rfl; rfl; apply Swap.z; apply Put.here; apply Over.cons; apply Over.cons; apply Over.cons; apply Over.nil
        apply OL.nil
        with_reducible apply At.next
        apply W.seq
        apply W.reg
        apply ofa; rfl; rfl; rfl
        apply old; rfl; rfl; exact .head _; rfl; rfl
        apply OL.op; exact Guard.none; rfl; rfl; apply Pev.build; rfl; exact CellsL.agg; rfl; apply Fill.cons rfl; exact CellsL.one rfl; rfl; rfl; apply Put.here; apply Over.cons; apply Over.nil; apply Fill.nil; rfl
        apply OL.alloc; rfl; rfl; exact CellsL.agg; (intro bk hbk; simp only [AllLe, and_true] at hbk)
        apply OL.storeB; rfl; rfl; exact CellsL.agg; rfl; rfl; rfl; apply Swap.z; apply Put.here; apply Over.cons; apply Over.cons; apply Over.nil
        apply OL.nil
        with_reducible apply At.next
        apply W.seq
        apply W.seq
        apply W.reg
        apply ofa; rfl; rfl; rfl
        apply old; rfl; rfl; exact .tail _ (.head _); rfl; rfl
        apply omv; rfl; rfl
        apply OL.nil
        with_reducible apply At.next
        apply W.block
        revert bk
        intro bd hbd
        skip
        refine W.loop (G := Nat × GP × List Int) (fun g => g.1 ≤ d.params ∧ g.2.2.length = g.1 ∧ Rs σ l i g.2.2) (fun g => d.params - g.1)
          (fun g => [(7, true, .pointer (some ⟨bs', 0, none⟩)), (22, true, .slice qo i co), (23, true, .int .i64 (i : Int)), (25, true, .pointer (some ⟨bd, 0, none⟩)), (137, true, .slice (some a) l.length cd), (138, true, .int .i64 (l.length : Int)), (139, true, .int .i64 (i : Int)), (148, true, .int .i64 (d.params : Int)), (149, true, .int .i64 (g.1 : Int))])
          (fun g => Cls (row B' P1 q1 (3 + M) c1 3 1 (nts (σ).up) :: row B' P2 q2 (3 + M) c2 3 1 (ins (σ).kind) :: blk bs' 64 [k1, k2, k3, .slice q1 (3 + M) c1, .slice q2 (3 + M) c2] :: (row B' Of qf l.length cf 3 1 (nts (fiOf (dss l) 3)) :: row B' Oo qo i co 34 2 (cat krc rows) :: pile B' Op (rows.map KR.sl) :: blk bd 34 [.string d.nm, .slice g.2.1.q g.1 g.2.1.c] :: row B' g.2.1.O g.2.1.q g.1 g.2.1.c 3 1 (ins g.2.2) :: [])) [w]) (0, gp0, []) ⟨by simp, rfl, fun j v hj => by simp at hj⟩ (by (repeat (first | exact Sub.nil | apply Sub.cons rfl | (refine Sub.cons_eq rfl (congrArg (Value.int .i64) (by first | omega | (simp only; omega))) ?_)))) (fun w' hw' => ?_) ?_
        · exact Cls.mid (A := [_]) (I := [_, _, _, _, _, _, _]) (H := []) ((Cls.mid (A := [_]) (I := [_, _, _, _, _, _]) (H := []) (hw'.thin (.keep (.blk (by simp only [AllLe, and_true]; omega) Thin.same)))).row_nil B' _ 1)
        rintro ⟨p, ⟨Ok, qk, ck⟩, xs⟩ ⟨hp, hxl, hRs⟩
        simp only at hp hxl hRs ⊢
        apply W.seq
        apply W.reg
        apply obn; rfl; rfl; rfl; apply Bin.lss
        apply OL.nil
        with_reducible apply At.next
        apply W.seq
        (refine W.cond rfl (fun hlt2 => ?_) (fun hlt2 => ?_)) <;> (try (simp only [Bool.and_eq_true, Bool.or_eq_true, Bool.not_eq_true', Bool.and_eq_false_iff, Bool.or_eq_false_iff, Bool.not_eq_false', decide_eq_true_eq, decide_eq_false_iff_not, Int.not_lt, Int.not_le] at hlt2)) <;> (try (exfalso; first | omega | exact hlt2 trivial | contradiction))
        · have hpl : p < d.params := by omega
          refine W.fact (fun w2 hw2 => row_some (hw2.item (.tail _ (.head _))) (by omega)) ?_
          rintro ⟨b2, rfl⟩
          refine W.fact (fun w2 hw2 => row_some (hw2.item (.tail _ (.tail _ (.tail _ (.head _))))) (show 0 < l.length by omega)) ?_
          rintro ⟨bf, rfl⟩
          have hcf : (nts (fiOf (dss l) 3))[0 + (i : Int).toNat * 1]? = some (.int .i64 ((3 + bsum (dss l) i : Nat) : Int)) := by
            have := nts_get (fiOf_get (ds := dss l) (a := 3) (i := i) (by rw [dss_length]; omega))
            simpa using this
          have hsM := bsum_mono (ds := dss l) (i := i + 1) (j := (dss l).length) (by rw [dss_length]; omega) (Nat.le_refl _)
          rw [dss_length, hM] at hsM
          obtain ⟨dd, r, hr⟩ := hinv.rt (3 + (bsum (dss l) i + p)) (by omega)
          obtain ⟨kv, hkv⟩ := hinv.kind hr
          have hck := ins_get hkv
          have hrl := hr.lt.2
          have hsum : (((3 + bsum (dss l) i : Nat) : Int) + (p : Int)) = ((3 + (bsum (dss l) i + p) : Nat) : Int) := by omega
          have hroot := fun (H : List Eng.Item) (w2 : World) (hw2 : Cls (row B' P1 q1 (3 + M) c1 3 1 (nts σ.up) :: row B' P2 (some ⟨b2, 0, none⟩) (3 + M) c2 3 1 (ins σ.kind) :: blk bs' 64 [k1, k2, k3, .slice q1 (3 + M) c1, .slice (some ⟨b2, 0, none⟩) (3 + M) c2] :: H) [w] w2) => root_calls ⟨B', bs', k1, k2, k3, P1, q1, c1, P2, some ⟨b2, 0, none⟩, c2⟩ (3 + M) σ H [w] w2 hsl hw2 dd (3 + (bsum (dss l) i + p)) r hr
          simp only [← hsum] at hroot
          subst hL3
          apply W.skip
          with_reducible apply At.next
          apply W.seq
          apply W.block
          apply W.seq
          apply W.reg
          apply omv; rfl; rfl
          apply oas; rfl; rfl
          apply OL.nil
          with_reducible apply At.next
          refine W.regany (X := XV [w]) (fun x e => [(174, true, bif e 22 then .pointer (some ⟨bd, 0 + 1, none⟩) else x.old 174), (173, true, bif e 21 then .slice (some ⟨x.g1, 0, none⟩) (p + 1) x.c1 else x.old 173), (172, true, bif e 20 then .slice (some ⟨x.b1, 0, none⟩) 1 1 else x.old 172), (171, true, bif e 19 then .int .i64 (if 0 < kv then kv else 0) else x.old 171), (170, true, bif e 18 then .int .i64 kv else x.old 170), (169, true, bif e 17 then .pointer (some ⟨b2, 0 + (r : Int).toNat * 1, none⟩) else x.old 169), (168, true, bif e 16 then .int .i64 (r : Int) else x.old 168), (167, true, bif e 15 then .int .i64 (((3 + bsum (dss l) i : Nat) : Int) + (p : Int)) else x.old 167), (166, true, bif e 14 then .int .i64 (p : Int) else x.old 166), (165, true, bif e 13 then .int .i64 ((3 + bsum (dss l) i : Nat) : Int) else x.old 165), (164, true, bif e 12 then .pointer (some ⟨bf, 0 + (i : Int).toNat * 1, none⟩) else x.old 164), (163, true, bif e 11 then .int .i64 (i : Int) else x.old 163), (162, true, bif e 10 then .slice (some ⟨bf, 0, none⟩) l.length cf else x.old 162), (161, true, bif e 9 then .pointer (some ⟨bs', 0 + 2, none⟩) else x.old 161), (160, true, bif e 8 then .pointer (some ⟨bs', 0, none⟩) else x.old 160), (159, true, bif e 7 then .pointer (some ⟨bs', 0, none⟩) else x.old 159), (158, true, bif e 6 then .pointer (some ⟨bs', 0, none⟩) else x.old 158), (157, true, bif e 5 then .slice (some ⟨b2, 0, none⟩) (3 + M) c2 else x.old 157), (156, true, bif e 4 then .pointer (some ⟨bs', 0 + 4, none⟩) else x.old 156), (155, true, bif e 3 then .pointer (some ⟨bs', 0, none⟩) else x.old 155), (154, true, bif e 2 then .pointer (some ⟨bs', 0, none⟩) else x.old 154), (153, true, bif e 1 then .slice qk p ck else x.old 153), (152, true, bif e 0 then .pointer (some ⟨bd, 0 + 1, none⟩) else x.old 152), (7, true, .pointer (some ⟨bs', 0, none⟩)), (22, true, .slice qo i co), (23, true, .int .i64 (i : Int)), (25, true, .pointer (some ⟨bd, 0, none⟩)), (26, true, .int .i64 (p : Int)), (137, true, .slice (some a) l.length cd), (138, true, .int .i64 (l.length : Int)), (139, true, .int .i64 (i : Int)), (148, true, .int .i64 (d.params : Int)), (149, true, .int .i64 (p : Int))])
            (fun x e => (row B' P1 q1 (3 + M) c1 3 1 (nts σ.up)) :: (row B' P2 (some ⟨b2, 0, none⟩) (3 + M) c2 3 1 (ins σ.kind)) :: (blk bs' 64 [k1, k2, .slice (some ⟨bf, 0, none⟩) l.length cf, .slice q1 (3 + M) c1, .slice (some ⟨b2, 0, none⟩) (3 + M) c2]) :: (row B' Of (some ⟨bf, 0, none⟩) l.length cf 3 1 (nts (fiOf (dss l) 3))) :: (row B' Oo qo i co 34 2 (cat krc rows)) :: (pile B' Op (rows.map KR.sl)) :: (blk bd 34 [.string d.nm, bif e 23 then .slice (some ⟨x.g1, 0, none⟩) (p + 1) x.c1 else .slice qk p ck]) :: (bif e 21 then row B' x.O1 (some ⟨x.g1, 0, none⟩) (p + 1) x.c1 3 1 (ins xs ++ [.int .i64 (if 0 < kv then kv else 0)]) else row B' Ok qk p ck 3 1 (ins xs)) :: (bif e 20 then blk x.b1 3 [.int .i64 (if 0 < kv then kv else 0)] else nothing) :: [])
            (fun old => ⟨w.heap.size, ⟨Nat.le_refl _, trivial⟩, 0, 0, fun _ => False, old⟩) (by kernel_rfl) (by kernel_rfl) (fun w hw => hw.drew) (fun old => by repeat (first | exact SubO.nil | apply SubO.cons rfl | refine SubO.old rfl ?_)) (fun old w' hw' => hw'.add_nothing) ?_ ?_
          · intro x e i o ho hei hd hcl
            have hi : i < 24 := (List.getElem?_eq_some_iff.1 ho).1
            obtain rfl | rfl | rfl | rfl | rfl | rfl | rfl | rfl | rfl | rfl | rfl | rfl | rfl | rfl | rfl | rfl | rfl | rfl | rfl | rfl | rfl | rfl | rfl | rfl : i = 0 ∨ i = 1 ∨ i = 2 ∨ i = 3 ∨ i = 4 ∨ i = 5 ∨ i = 6 ∨ i = 7 ∨ i = 8 ∨ i = 9 ∨ i = 10 ∨ i = 11 ∨ i = 12 ∨ i = 13 ∨ i = 14 ∨ i = 15 ∨ i = 16 ∨ i = 17 ∨ i = 18 ∨ i = 19 ∨ i = 20 ∨ i = 21 ∨ i = 22 ∨ i = 23 := by omega
            · cases ho
              have v0 : Eng.upd e 0 0 = true := upd_eq
              simp only [hei, cond_true, cond_false]
              apply ofa; rfl; rfl; rfl
              apply OL.nil
              exact At.beside x (by repeat (first | exact Sub.nil | apply Sub.cons rfl | refine Sub.cons_eq rfl (by simp only [v0, cond_true, cond_false]) ?_)) (fun w' hw' => by first | exact hw' | (simp only [v0, cond_true, cond_false]; exact hw'))
            · cases ho
              have h0 : e 0 = true := hd ⟨0, .data⟩ (by simp) rfl
              have h23 : e 23 = false := hcl.not (i := 1) (j := 23) rfl hei (by kernel_rfl)
              have v1 : Eng.upd e 1 1 = true := upd_eq
              have v0 : Eng.upd e 1 0 = true := upd_mono h0
              have v23 : Eng.upd e 1 23 = false := h23
              simp only [hei, h0, h23, cond_true, cond_false]
              apply old; rfl; rfl; apply List.Mem.tail; apply List.Mem.tail; apply List.Mem.tail; apply List.Mem.tail; exact .tail _ (.tail _ (.head _)); rfl; rfl
              apply OL.nil
              exact At.beside x (by repeat (first | exact Sub.nil | apply Sub.cons rfl | refine Sub.cons_eq rfl (by simp only [v1, v0, v23, cond_true, cond_false]) ?_)) (fun w' hw' => by first | exact hw' | (simp only [v1, v0, v23, cond_true, cond_false]; exact hw'))
            · cases ho
              have v2 : Eng.upd e 2 2 = true := upd_eq
              simp only [hei, cond_true, cond_false]
              apply omv; rfl; rfl
              apply OL.nil
              exact At.beside x (by repeat (first | exact Sub.nil | apply Sub.cons rfl | refine Sub.cons_eq rfl (by simp only [v2, cond_true, cond_false]) ?_)) (fun w' hw' => by first | exact hw' | (simp only [v2, cond_true, cond_false]; exact hw'))
            · cases ho
              have h2 : e 2 = true := hd ⟨2, .data⟩ (by simp) rfl
              have v3 : Eng.upd e 3 3 = true := upd_eq
              have v2 : Eng.upd e 3 2 = true := upd_mono h2
              simp only [hei, h2, cond_true, cond_false]
              apply OL.op; exact Guard.none; rfl; rfl; apply Pev.nil_ptr; rfl; exact yes
              apply OL.nil
              exact At.beside x (by repeat (first | exact Sub.nil | apply Sub.cons rfl | refine Sub.cons_eq rfl (by simp only [v3, v2, cond_true, cond_false]) ?_)) (fun w' hw' => by first | exact hw' | (simp only [v3, v2, cond_true, cond_false]; exact hw'))
            · cases ho
              have h3 : e 3 = true := hd ⟨3, .data⟩ (by simp) rfl
              have v4 : Eng.upd e 4 4 = true := upd_eq
              have v3 : Eng.upd e 4 3 = true := upd_mono h3
              simp only [hei, h3, cond_true, cond_false]
              apply ofa; rfl; rfl; rfl
              apply OL.nil
              exact At.beside x (by repeat (first | exact Sub.nil | apply Sub.cons rfl | refine Sub.cons_eq rfl (by simp only [v4, v3, cond_true, cond_false]) ?_)) (fun w' hw' => by first | exact hw' | (simp only [v4, v3, cond_true, cond_false]; exact hw'))
            · cases ho
              have h4 : e 4 = true := hd ⟨4, .data⟩ (by simp) rfl
              have v5 : Eng.upd e 5 5 = true := upd_eq
              have v4 : Eng.upd e 5 4 = true := upd_mono h4
              simp only [hei, h4, cond_true, cond_false]
              apply old; rfl; rfl; exact .tail _ (.tail _ (.head _)); rfl; rfl
              apply OL.nil
              exact At.beside x (by repeat (first | exact Sub.nil | apply Sub.cons rfl | refine Sub.cons_eq rfl (by simp only [v5, v4, cond_true, cond_false]) ?_)) (fun w' hw' => by first | exact hw' | (simp only [v5, v4, cond_true, cond_false]; exact hw'))
            · cases ho
              have v6 : Eng.upd e 6 6 = true := upd_eq
              simp only [hei, cond_true, cond_false]
              apply omv; rfl; rfl
              apply OL.nil
              exact At.beside x (by repeat (first | exact Sub.nil | apply Sub.cons rfl | refine Sub.cons_eq rfl (by simp only [v6, cond_true, cond_false]) ?_)) (fun w' hw' => by first | exact hw' | (simp only [v6, cond_true, cond_false]; exact hw'))
            · cases ho
              have v7 : Eng.upd e 7 7 = true := upd_eq
              simp only [hei, cond_true, cond_false]
              apply omv; rfl; rfl
              apply OL.nil
              exact At.beside x (by repeat (first | exact Sub.nil | apply Sub.cons rfl | refine Sub.cons_eq rfl (by simp only [v7, cond_true, cond_false]) ?_)) (fun w' hw' => by first | exact hw' | (simp only [v7, cond_true, cond_false]; exact hw'))
            · cases ho
              have h7 : e 7 = true := hd ⟨7, .data⟩ (by simp) rfl
              have v8 : Eng.upd e 8 8 = true := upd_eq
              have v7 : Eng.upd e 8 7 = true := upd_mono h7
              simp only [hei, h7, cond_true, cond_false]
              apply OL.op; exact Guard.none; rfl; rfl; apply Pev.nil_ptr; rfl; exact yes
              apply OL.nil
              exact At.beside x (by repeat (first | exact Sub.nil | apply Sub.cons rfl | refine Sub.cons_eq rfl (by simp only [v8, v7, cond_true, cond_false]) ?_)) (fun w' hw' => by first | exact hw' | (simp only [v8, v7, cond_true, cond_false]; exact hw'))
            · cases ho
              have h8 : e 8 = true := hd ⟨8, .data⟩ (by simp) rfl
              have v9 : Eng.upd e 9 9 = true := upd_eq
              have v8 : Eng.upd e 9 8 = true := upd_mono h8
              simp only [hei, h8, cond_true, cond_false]
              apply ofa; rfl; rfl; rfl
              apply OL.nil
              exact At.beside x (by repeat (first | exact Sub.nil | apply Sub.cons rfl | refine Sub.cons_eq rfl (by simp only [v9, v8, cond_true, cond_false]) ?_)) (fun w' hw' => by first | exact hw' | (simp only [v9, v8, cond_true, cond_false]; exact hw'))
            · cases ho
              have h9 : e 9 = true := hd ⟨9, .data⟩ (by simp) rfl
              have v10 : Eng.upd e 10 10 = true := upd_eq
              have v9 : Eng.upd e 10 9 = true := upd_mono h9
              simp only [hei, h9, cond_true, cond_false]
              apply old; rfl; rfl; exact .tail _ (.tail _ (.head _)); rfl; rfl
              apply OL.nil
              exact At.beside x (by repeat (first | exact Sub.nil | apply Sub.cons rfl | refine Sub.cons_eq rfl (by simp only [v10, v9, cond_true, cond_false]) ?_)) (fun w' hw' => by first | exact hw' | (simp only [v10, v9, cond_true, cond_false]; exact hw'))
            · cases ho
              have v11 : Eng.upd e 11 11 = true := upd_eq
              simp only [hei, cond_true, cond_false]
              apply omv; rfl; rfl
              apply OL.nil
              exact At.beside x (by repeat (first | exact Sub.nil | apply Sub.cons rfl | refine Sub.cons_eq rfl (by simp only [v11, cond_true, cond_false]) ?_)) (fun w' hw' => by first | exact hw' | (simp only [v11, cond_true, cond_false]; exact hw'))
            · cases ho
              have h10 : e 10 = true := hd ⟨10, .data⟩ (by simp) rfl
              have h11 : e 11 = true := hd ⟨11, .data⟩ (by simp) rfl
              have v12 : Eng.upd e 12 12 = true := upd_eq
              have v10 : Eng.upd e 12 10 = true := upd_mono h10
              have v11 : Eng.upd e 12 11 = true := upd_mono h11
              simp only [hei, h10, h11, cond_true, cond_false]
              apply OL.op; exact Guard.none; rfl; rfl; apply Pev.idxB; rfl; exact yes; rfl; exact yes; rfl; intro hcond; omega; rfl
              apply OL.nil
              exact At.beside x (by repeat (first | exact Sub.nil | apply Sub.cons rfl | refine Sub.cons_eq rfl (by simp only [v12, v10, v11, cond_true, cond_false]) ?_)) (fun w' hw' => by first | exact hw' | (simp only [v12, v10, v11, cond_true, cond_false]; exact hw'))
            · cases ho
              have h12 : e 12 = true := hd ⟨12, .data⟩ (by simp) rfl
              have v13 : Eng.upd e 13 13 = true := upd_eq
              have v12 : Eng.upd e 13 12 = true := upd_mono h12
              simp only [hei, h12, cond_true, cond_false]
              apply OL.op; exact Guard.none; rfl; rfl; apply Pev.load_row; rfl; exact yes; apply List.Mem.tail; exact .tail _ (.tail _ (.head _)); rfl; assumption
              apply OL.nil
              exact At.beside x (by repeat (first | exact Sub.nil | apply Sub.cons rfl | refine Sub.cons_eq rfl (by simp only [v13, v12, cond_true, cond_false]) ?_)) (fun w' hw' => by first | exact hw' | (simp only [v13, v12, cond_true, cond_false]; exact hw'))
            · cases ho
              have v14 : Eng.upd e 14 14 = true := upd_eq
              simp only [hei, cond_true, cond_false]
              apply omv; rfl; rfl
              apply OL.nil
              exact At.beside x (by repeat (first | exact Sub.nil | apply Sub.cons rfl | refine Sub.cons_eq rfl (by simp only [v14, cond_true, cond_false]) ?_)) (fun w' hw' => by first | exact hw' | (simp only [v14, cond_true, cond_false]; exact hw'))
            · cases ho
              have h13 : e 13 = true := hd ⟨13, .data⟩ (by simp) rfl
              have h14 : e 14 = true := hd ⟨14, .data⟩ (by simp) rfl
              have v15 : Eng.upd e 15 15 = true := upd_eq
              have v13 : Eng.upd e 15 13 = true := upd_mono h13
              have v14 : Eng.upd e 15 14 = true := upd_mono h14
              simp only [hei, h13, h14, cond_true, cond_false]
              apply obn; rfl; rfl; rfl; apply Bin.add_in; omega
              apply OL.nil
              exact At.beside x (by repeat (first | exact Sub.nil | apply Sub.cons rfl | refine Sub.cons_eq rfl (by simp only [v15, v13, v14, cond_true, cond_false]) ?_)) (fun w' hw' => by first | exact hw' | (simp only [v15, v13, v14, cond_true, cond_false]; exact hw'))
            · cases ho
              have h6 : e 6 = true := hd ⟨6, .data⟩ (by simp) rfl
              have h15 : e 15 = true := hd ⟨15, .data⟩ (by simp) rfl
              have v16 : Eng.upd e 16 16 = true := upd_eq
              have v6 : Eng.upd e 16 6 = true := upd_mono h6
              have v15 : Eng.upd e 16 15 = true := upd_mono h15
              simp only [hei, h6, h15, cond_true, cond_false]
              skip
              (((first | (with_reducible apply OL.op) | (with_reducible apply QL.op)); ((first | exact Guard.none | exact Guard.yes rfl rfl | exact Guard.no rfl rfl | exact Guard.cyes rfl rfl | exact Guard.cno rfl rfl)); rfl; rfl); (exact Pev.call rfl (by (repeat (first | exact Args.nil | (apply Args.cons rfl; ((first | exact fun _ => rfl | exact fun h => h | (intro h; simp_all; done))))))) (fun _ w2 hw2 => hroot _ w2 hw2)))
              apply OL.nil
              exact At.beside x (by repeat (first | exact Sub.nil | apply Sub.cons rfl | refine Sub.cons_eq rfl (by simp only [v16, v6, v15, cond_true, cond_false]) ?_)) (fun w' hw' => by first | exact hw' | (simp only [v16, v6, v15, cond_true, cond_false]; exact hw'))
            · cases ho
              have h5 : e 5 = true := hd ⟨5, .data⟩ (by simp) rfl
              have h16 : e 16 = true := hd ⟨16, .data⟩ (by simp) rfl
              have v17 : Eng.upd e 17 17 = true := upd_eq
              have v5 : Eng.upd e 17 5 = true := upd_mono h5
              have v16 : Eng.upd e 17 16 = true := upd_mono h16
              simp only [hei, h5, h16, cond_true, cond_false]
              apply OL.op; exact Guard.none; rfl; rfl; apply Pev.idxB; rfl; exact yes; rfl; exact yes; rfl; intro hcond; omega; rfl
              apply OL.nil
              exact At.beside x (by repeat (first | exact Sub.nil | apply Sub.cons rfl | refine Sub.cons_eq rfl (by simp only [v17, v5, v16, cond_true, cond_false]) ?_)) (fun w' hw' => by first | exact hw' | (simp only [v17, v5, v16, cond_true, cond_false]; exact hw'))
            · cases ho
              have h17 : e 17 = true := hd ⟨17, .data⟩ (by simp) rfl
              have v18 : Eng.upd e 18 18 = true := upd_eq
              have v17 : Eng.upd e 18 17 = true := upd_mono h17
              simp only [hei, h17, cond_true, cond_false]
              apply OL.op; exact Guard.none; rfl; rfl; apply Pev.load_row; rfl; exact yes; exact .tail _ (.head _); rfl; assumption
              apply OL.nil
              exact At.beside x (by repeat (first | exact Sub.nil | apply Sub.cons rfl | refine Sub.cons_eq rfl (by simp only [v18, v17, cond_true, cond_false]) ?_)) (fun w' hw' => by first | exact hw' | (simp only [v18, v17, cond_true, cond_false]; exact hw'))
            · cases ho
              have h18 : e 18 = true := hd ⟨18, .data⟩ (by simp) rfl
              have v19 : Eng.upd e 19 19 = true := upd_eq
              have v18 : Eng.upd e 19 18 = true := upd_mono h18
              simp only [hei, h18, cond_true, cond_false]
              apply OL.op; exact Guard.none; rfl; rfl; apply Pev.max2; rfl; exact yes; rfl; exact yes
              apply OL.nil
              exact At.beside x (by repeat (first | exact Sub.nil | apply Sub.cons rfl | refine Sub.cons_eq rfl (by simp only [v19, v18, cond_true, cond_false]) ?_)) (fun w' hw' => by first | exact hw' | (simp only [v19, v18, cond_true, cond_false]; exact hw'))
            · cases ho
              have h19 : e 19 = true := hd ⟨19, .data⟩ (by simp) rfl
              have v20 : Eng.upd e 20 20 = true := upd_eq
              have v19 : Eng.upd e 20 19 = true := upd_mono h19
              simp only [hei, h19, cond_true, cond_false]
              apply OL.buildSlice; rfl; rfl; rfl; apply Elems.cons rfl; exact CellsL.one rfl; rfl; apply Elems.nil; apply App.cons; apply App.nil; rfl; rfl; (intro bk hbk; simp only [AllLe, and_true] at hbk)
              apply OL.nil
              exact At.beside { x with b1 := bk, hb1 := ⟨hbk, trivial⟩ } (by repeat (first | exact Sub.nil | apply Sub.cons rfl | refine Sub.cons_eq rfl (by simp only [v20, v19, cond_true, cond_false]) ?_)) (fun w' hw' => by simp only [v20, v19, cond_true, cond_false]; exact Cls.fill (p := 8) (H := _ :: _ :: _ :: _ :: _ :: _ :: _ :: _ :: _ :: []) (.s (.s (.s (.s (.s (.s (.s (.s .z)))))))) hw')
            · cases ho
              have h1 : e 1 = true := hd ⟨1, .data⟩ (by simp) rfl
              have h20 : e 20 = true := hd ⟨20, .data⟩ (by simp) rfl
              have h23 : e 23 = false := hcl.not (i := 21) (j := 23) rfl hei (by kernel_rfl)
              have v21 : Eng.upd e 21 21 = true := upd_eq
              have v1 : Eng.upd e 21 1 = true := upd_mono h1
              have v20 : Eng.upd e 21 20 = true := upd_mono h20
              have v23 : Eng.upd e 21 23 = false := h23
              simp only [hei, h1, h20, h23, cond_true, cond_false]
              apply OL.append
              rfl
              rfl
              rfl
              rfl
              (repeat (first | apply Hole.z | apply Hole.s))
              (repeat (first | exact List.Mem.head _ | apply List.Mem.tail))
              (repeat (first | apply Take.zero | apply Take.succ))
              rfl
              rfl
              exact hbS
              omega
              intro O1 g1 cap1
              apply OL.nil
              exact At.beside { x with g1 := g1, c1 := cap1, O1 := O1 } (by repeat (first | exact Sub.nil | apply Sub.cons rfl | refine Sub.cons_eq rfl (by simp only [v21, v1, v20, v23, cond_true, cond_false]) ?_)) (fun w' hw' => by first | exact hw' | (simp only [v21, v1, v20, v23, cond_true, cond_false]; exact hw'))
            · cases ho
              have v22 : Eng.upd e 22 22 = true := upd_eq
              simp only [hei, cond_true, cond_false]
              apply ofa; rfl; rfl; rfl
              apply OL.nil
              exact At.beside x (by repeat (first | exact Sub.nil | apply Sub.cons rfl | refine Sub.cons_eq rfl (by simp only [v22, cond_true, cond_false]) ?_)) (fun w' hw' => by first | exact hw' | (simp only [v22, cond_true, cond_false]; exact hw'))
            · cases ho
              have h21 : e 21 = true := hd ⟨21, .data⟩ (by simp) rfl
              have h22 : e 22 = true := hd ⟨22, .data⟩ (by simp) rfl
              have v23 : Eng.upd e 23 23 = true := upd_eq
              have v21 : Eng.upd e 23 21 = true := upd_mono h21
              have v22 : Eng.upd e 23 22 = true := upd_mono h22
              simp only [hei, h21, h22, cond_true, cond_false]
              apply OL.storeB; rfl; rfl; exact CellsL.one rfl; rfl; rfl; rfl; apply Swap.s; apply Swap.s; apply Swap.s; apply Swap.s; apply Swap.s; apply Swap.s; apply Swap.z; apply Put.skip; apply Put.here; apply Over.cons; apply Over.nil
              apply OL.nil
              exact At.beside x (by repeat (first | exact Sub.nil | apply Sub.cons rfl | refine Sub.cons_eq rfl (by simp only [v23, v21, v22, cond_true, cond_false]) ?_)) (fun w' hw' => by first | exact hw' | (simp only [v23, v21, v22, cond_true, cond_false]; exact hw'))
          · intro x e hall
            have hx1 := x.hb1
            have em : (if 0 < kv then kv else 0) = max 0 kv := by rw [Int.max_def]; split <;> split <;> omega
            simp only [hall 0 (by decide), hall 1 (by decide), hall 2 (by decide), hall 3 (by decide), hall 4 (by decide), hall 5 (by decide), hall 6 (by decide), hall 7 (by decide), hall 8 (by decide), hall 9 (by decide), hall 10 (by decide), hall 11 (by decide), hall 12 (by decide), hall 13 (by decide), hall 14 (by decide), hall 15 (by decide), hall 16 (by decide), hall 17 (by decide), hall 18 (by decide), hall 19 (by decide), hall 20 (by decide), hall 21 (by decide), hall 22 (by decide), hall 23 (by decide), cond_true, cond_false, em]
            with_reducible apply At.in_normal
            with_reducible apply At.next
            apply W.reg
            apply obn; rfl; rfl; rfl; apply Bin.add_in; omega
            apply omv; rfl; rfl
            apply OL.nil
            refine At.again (p + 1, ⟨x.O1, some ⟨x.g1, 0, none⟩, x.c1⟩, xs ++ [max 0 kv]) ⟨by simp only; omega, by simp [hxl], hRs.snoc hxl hr hkv⟩ (by simp only; omega) (by (repeat (first | exact Sub.nil | apply Sub.cons rfl | (refine Sub.cons_eq rfl (congrArg (Value.int .i64) (by first | omega | (simp only; omega))) ?_)))) (fun w' hw' => ?_)
            simp only [ins_snoc]
            exact hw'.thin (.keep (.keep (.keep (.keep (.keep (.keep (.keep (.keep (.blk x.hb1 Thin.same)))))))))
        · obtain rfl : p = d.params := by omega
          apply W.exit
          with_reducible apply At.then_exit
          with_reducible apply At.then_exit
          with_reducible apply At.in_exit
          with_reducible apply At.next
          apply W.reg
          apply omv; rfl; rfl
          apply OL.op; exact Guard.none; rfl; rfl; apply Pev.load_blkA; rfl; exact yes; apply List.Mem.tail; apply List.Mem.tail; apply List.Mem.tail; apply List.Mem.tail; exact .tail _ (.tail _ (.head _)); rfl; apply Take.succ; apply Take.succ; apply Take.zero
          apply OL.buildSlice; rfl; rfl; rfl; apply Elems.cons rfl; exact CellsL.agg; rfl; apply Elems.nil; apply App.cons; apply App.cons; apply App.nil; rfl; rfl; (intro bk hbk; simp only [AllLe, and_true] at hbk)
          apply OL.append; rfl; rfl; rfl; rfl; apply Hole.s; apply Hole.s; apply Hole.s; apply Hole.s; apply Hole.s; apply Hole.z; exact .head _; apply Take.succ; apply Take.succ; apply Take.zero; rfl; rfl; assumption; omega; intro O1 g1 cap1
          apply oas; rfl; rfl
          apply OL.nil
          with_reducible apply At.in_normal
          with_reducible apply At.next
          apply W.reg
          apply obn; rfl; rfl; rfl; apply Bin.add_in; omega
          apply omv; rfl; rfl
          apply OL.nil
          have e1 : cat krc (rows ++ [⟨d.nm, qk, ck, xs⟩]) = cat krc rows ++ [.string d.nm, .slice qk d.params ck] := by rw [cat_append, cat_one, krc, hxl]
          have e2 : (rows ++ [(⟨d.nm, qk, ck, xs⟩ : KR)]).map KR.sl = rows.map KR.sl ++ [⟨qk, ck, ins xs⟩] := by rw [List.map_append]; rfl
          refine At.again (i + 1, ⟨O1, some ⟨g1, 0, none⟩, cap1⟩, (fun k => Ok k ∨ Op k), rows ++ [⟨d.nm, qk, ck, xs⟩]) ⟨by simp only; omega, by simp [hrl], hrok.snoc hrl hd rfl hxl hRs⟩ (by simp only; omega) (by (repeat (first | exact Sub.nil | apply Sub.cons rfl | (refine Sub.cons_eq rfl (congrArg (Value.int .i64) (by first | omega | (simp only; omega))) ?_)))) (fun w' hw' => ?_)
          simp only [e1, e2]
          have h1 := hw'.thin (.blk (by simp only [AllLe, and_true]; omega) (.keep (.keep (.keep (.keep (.keep (.keep (.blk (by simp only [AllLe, and_true]; omega) Thin.same))))))))
          exact Cls.mid (A := [_]) (I := [_, _, _, _, _]) (H := []) (Cls.flip (Cls.mid (A := [_, _, _, _, _, _]) (I := [_]) (H := []) (Cls.mid (A := [_, _, _, _, _, _]) (I := [_]) (H := []) h1))).pile_push
      · obtain rfl : i = l.length := by omega
        apply W.exit
        with_reducible apply At.then_exit
        with_reducible apply At.then_exit
        with_reducible apply At.in_exit
        with_reducible apply At.next
        apply W.seq
        apply W.reg
        apply omv; rfl; rfl
        apply oas; rfl; rfl
        apply oas; rfl; rfl
        apply OL.nil
        with_reducible apply At.next
        apply W.ret
        ((with_reducible apply At.fin2); rfl; rfl; rfl; intro w' hw')
        refine ⟨0, qo, co, rows, by rw [hrl], ⟨fun h0 => absurd rfl h0, fun _ => ⟨hrl, σ, hinv, by rw [hM]; exact hsl, by rw [hM]; exact hS2, hrok⟩⟩, by (exact hw'.toExt (by (repeat (first | exact List.Mem.head _ | apply List.Mem.tail))) (fun k hk => by (focus ((try simp only [add_block]); (repeat (first | exact NotOwned.nil | exact hno _ (by omega) | refine NotOwned.nothing ?_ | refine NotOwned.nds (hlow _ (by omega)) ?_ | refine NotOwned.mapS (by omega) ?_ | apply NotOwned.bif | refine NotOwned.blk (by omega) ?_ | refine NotOwned.row (by omega) ?_ | refine NotOwned.grid (by assumption) (by omega) ?_ | refine NotOwned.pile (by omega) ?_)); done)))), SlAt.of_row (hw'.item (.tail _ (.tail _ (.tail _ (.tail _ (.head _)))))), fun kr hk => ?_⟩
        have := pile_at (hw'.item (.tail _ (.tail _ (.tail _ (.tail _ (.tail _ (.head _))))))) (List.mem_map_of_mem (f := KR.sl) hk)
        exact this
end Go.Proofs.YtaponemcbnnebaaDoor.ki
