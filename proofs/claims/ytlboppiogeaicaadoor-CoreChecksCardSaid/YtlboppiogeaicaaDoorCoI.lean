/- The walk of core's free. Conditions: none. -/
import Derived.Test.YtlboppiogeaicaaDoorCoH
namespace Go.Co
open Go.Eng Go.RowKit
set_option linter.unusedVariables false
set_option linter.unusedSimpArgs false
/-- a map of counts -/
def intM (l : List (Int × Int)) : MI := l.map fun p => (p.1, .int .i64 p.2)
def lget : List (Int × Int) → Int → Option Int
  | [], _ => none
  | p :: r, k => if p.1 = k then some p.2 else lget r k
def lput : List (Int × Int) → Int → Int → List (Int × Int)
  | [], k, v => [(k, v)]
  | p :: r, k, v => if p.1 = k then (k, v) :: r else p :: lput r k v
def cf (l : List (Int × Int)) (k : Int) : Int := (lget l k).getD 0
theorem iget_intM (l : List (Int × Int)) (k : Int) : (iget (intM l) k).getD (.int .i64 0) = .int .i64 (cf l k) := by
  induction l with
  | nil => rfl
  | cons p r ih =>
    show (if p.1 = k then some (Value.int .i64 p.2) else iget (intM r) k).getD (.int .i64 0) = _
    unfold cf at ih ⊢
    rw [lget]
    by_cases h : p.1 = k
    · simp [h]
    · simp only [h, if_false]
      exact ih
theorem iput_intM (l : List (Int × Int)) (k v : Int) : iput (intM l) k (.int .i64 v) = intM (lput l k v) := by
  induction l with
  | nil => rfl
  | cons p r ih =>
    show (if p.1 = k then (k, Value.int .i64 v) :: intM r else (p.1, .int .i64 p.2) :: iput (intM r) k (.int .i64 v)) = _
    rw [lput]
    by_cases h : p.1 = k
    · simp [h, intM]
    · rw [if_neg h, if_neg h, ih]
      rfl
theorem cf_lput (l : List (Int × Int)) (k v j : Int) : cf (lput l k v) j = if k = j then v else cf l j := by
  induction l with
  | nil =>
    simp only [lput, cf, lget]
    split <;> simp
  | cons p r ih =>
    unfold cf at ih ⊢
    rw [lput]
    by_cases h : p.1 = k
    · rw [if_pos h]
      simp only [lget, h]
      split <;> simp_all
    · rw [if_neg h]
      simp only [lget]
      by_cases h2 : p.1 = j
      · rw [if_pos h2, if_pos h2, if_neg (fun e => h (h2.trans e.symm))]
      · rw [if_neg h2, if_neg h2]
        exact ih
/-- the counts are those of a list -/
def Cnt (l : List (Int × Int)) (sc : List Int) : Prop := ∀ k, cf l k = (sc.count k : Int)
theorem Cnt.inc {l : List (Int × Int)} {sc : List Int} (h : Cnt l sc) (k : Int) : Cnt (lput l k (cf l k + 1)) (k :: sc) := fun j => by
  rw [cf_lput, List.count_cons]
  by_cases e : k = j
  · subst e
    rw [if_pos rfl, h k]
    simp
  · rw [if_neg e, h j]
    simp [e]
theorem Cnt.dec {l : List (Int × Int)} {sc : List Int} {k : Int} (h : Cnt l (k :: sc)) : Cnt (lput l k (cf l k - 1)) sc := fun j => by
  rw [cf_lput]
  by_cases e : k = j
  · subst e
    rw [if_pos rfl, h k, List.count_cons]
    simp
  · rw [if_neg e, h j, List.count_cons]
    simp [e]
theorem Cnt.perm {l : List (Int × Int)} {sc sc' : List Int} (h : Cnt l sc) (hp : ∀ k, sc.count k = sc'.count k) : Cnt l sc' := fun k => by rw [h k, hp k]
theorem Cnt.mem {l : List (Int × Int)} {sc : List Int} (h : Cnt l sc) (k : Int) : cf l k = 0 ↔ ¬ k ∈ sc := by
  rw [h k, ← List.count_eq_zero]
  omega
mutual
def tsz : Tr → Nat
  | .mk _ _ _ kids _ => tszs kids + 1
def tszs : List Tr → Nat
  | [] => 0
  | t :: r => tsz t + tszs r
end
theorem tsz_get : ∀ {ts : List Tr} {i : Nat} {t : Tr}, ts[i]? = some t → tsz t ≤ tszs ts
  | [], _, _, h => by simp at h
  | u :: r, 0, t, h => by simp at h; subst h; simp only [tszs]; omega
  | u :: r, i + 1, t, h => by have := tsz_get (ts := r) (i := i) (t := t) (by simpa using h); simp only [tszs]; omega
theorem high_get : ∀ {ts : List Tr} {i : Nat} {t : Tr}, ts[i]? = some t → high t ≤ highs ts
  | [], _, _, h => by simp at h
  | u :: r, 0, t, h => by simp at h; subst h; simp only [highs]; omega
  | u :: r, i + 1, t, h => by have := high_get (ts := r) (i := i) (t := t) (by simpa using h); simp only [highs]; omega
end Go.Co
namespace Go.Eng
open Go.Co
section
variable {P : Program} {n : Nat} {l : Env} {H : List Item} {S : List World} {C : World → Prop} {c : Bool} {d : Option Nat} {ty : TypeId} {pos : String} {af : Array Edge} {g : Option (Nat × Bool)} {t : TypeId} {x y : Operand} {cx cy : Bool}
theorem Pev.clookup {k e : TypeId} {b : Nat} {m : List (Int × Int)} {s : Int} (hx : evl l x = some (cx, .map (some b))) (hcx : c = true → cx = true) (hy : evl l y = some (cy, .int .i64 s)) (hcy : c = true → cy = true) (ht : mapTi P t = some (k, e)) (hz : zeroV P e = some (.int .i64 0)) (hm : mapI b (intM m) ∈ H) :
    Pev P n l (Cls H S) ⟨d, .lookup t x y false, ty, pos, af, g⟩ c (.int .i64 (cf m s)) := by
  have h1 := Pev.ilookup (P := P) (n := n) (C := Cls H S) (d := d) (ty := ty) (pos := pos) (af := af) (g := g) hx hcx hy hcy ht hz (fun w hw => hw.item hm)
  rwa [iget_intM] at h1
end
end Go.Eng
namespace Go.Proofs.YtlboppiogeaicaaDoor.co
open Go.RowKit Go.Eng Go.Co
set_option linter.unusedVariables false
set_option linter.unusedSimpArgs false
set_option maxRecDepth 100000
structure FG where
  bm : List (Int × Int)
  l : List Int
theorem free_calls (s0 : World) (bb bo : Nat) (hbb : s0.heap.size ≤ bb) (hbo : s0.heap.size ≤ bo) :
    ∀ (m : Nat) (t : Tr) (b : Nat) (sc : List Int) (bm : List (Int × Int)) (l : List Int) (H : List Eng.Item) (S : List World) (w : World), tsz t ≤ m → TrO s0 (low s0) t b → Cnt bm sc → sc.length + 16 * high t ≤ 1000000 → (∀ k, k < s0.heap.size → NotOwned H k) →
      Cls (mapI bb (intM bm) :: mapI bo (setM l) :: H) (s0 :: S) w →
      Calls Tryd.prog 75 [.pointer (some ⟨b, 0, none⟩), .map (some bb), .map (some bo)].toArray w fun e w' => e = .returned (.tuple #[]) ∧ ∃ bm' l', Cnt bm' sc ∧ (∀ n, n ∈ l' ↔ n ∈ l ∨ n ∈ fv t sc) ∧ (l.Nodup → l'.Nodup) ∧ Cls (mapI bb (intM bm') :: mapI bo (setM l') :: H) (s0 :: S) w' := by
  intro m
  induction m with
  | zero =>
    intro t b sc bm l H S w hm
    obtain ⟨op, n, binds, kids, alts⟩ := t
    simp only [tsz] at hm
    omega
  | succ m ih =>
  intro t b sc bm l H S w hm ht hcnt hlen hno hc
  obtain ⟨op, n, binds, kids, alts⟩ := t
  simp only [TrO] at ht
  obtain ⟨y, hnode, hkl, hks⟩ := ht
  have hbs : b < s0.heap.size := hnode.own
  have hcells := hnode.cells
  have hcellI : ∀ {j : Nat} {v : Value}, ([.int .i64 op, .int .i64 n, .slice y.b.1 binds.length y.b.2, .slice y.k.1 kids.length y.k.2, .slice y.a.1 alts.length y.a.2] : List Value)[j]? = some v → s0.cell? ⟨b, 0 + j, none⟩ = some v := fun {j v} hj => by
    have := hcells j v hj
    rwa [add_mid] at this
  have h0 := hcellI (j := 0) rfl
  have h1 := hcellI (j := 1) rfl
  have h3 := hcellI (j := 3) rfl
  refine enter Tryd.func75 rfl Tryd.ntmps75 rfl hc ?_
  (simp only [argEnv, Nat.zero_add, Nat.reduceAdd])
  apply W.seq
  apply W.seq
  apply W.reg
  apply omv; rfl; rfl
  apply OL.op; exact Guard.none; rfl; rfl; apply Pev.nil_ptr; rfl; exact yes
  apply ofa; rfl; rfl; rfl
  apply OL.op; exact Guard.none; rfl; rfl; apply Pev.load_kept; rfl; exact yes; exact .head _; rfl; intro hcond; assumption; intro hcond; assumption; intro hcond; simp only [add_block]; refine NotOwned.mapI (by omega) ?_; refine NotOwned.mapI (by omega) ?_; exact hno _ (by omega)
  apply obn; rfl; rfl; rfl; apply Bin.eql
  apply omv; rfl; rfl
  apply OL.op; exact Guard.yes rfl rfl; rfl; rfl; apply Pev.move; rfl; exact yes
  apply OL.op; exact Guard.yes rfl rfl; rfl; rfl; apply Pev.move; rfl; exact yes
  apply OL.op; exact Guard.yes rfl rfl; rfl; rfl; apply Pev.nil_ptr; rfl; exact fun h => h
  apply OL.op; exact Guard.yes rfl rfl; rfl; rfl; apply Pev.fld; rfl; exact fun h => h; rfl
  apply OL.op; exact Guard.yes rfl rfl; rfl; rfl; apply Pev.load_kept; rfl; exact fun h => h; exact .head _; rfl; intro hcond; assumption; intro hcond; assumption; intro hcond; simp only [add_block]; refine NotOwned.mapI (by omega) ?_; refine NotOwned.mapI (by omega) ?_; exact hno _ (by omega)
  apply OL.op; exact Guard.yes rfl rfl; rfl; rfl; apply Pev.clookup; rfl; exact fun h => h; rfl; exact fun h => h; rfl; rfl; exact .head _
  apply OL.op; exact Guard.yes rfl rfl; rfl; rfl; apply Pev.bin; rfl; exact fun h => h; rfl; exact yes; intro hcond; apply Bin.eql
  apply OL.op; exact Guard.none; rfl; rfl; apply Pev.pick_and; rfl; exact yes; rfl; exact fun h => h
  apply OL.nil
  with_reducible apply At.next
  refine W.joinx (G := List Int) (fun l1 => (∀ k, k ∈ l1 ↔ k ∈ l ∨ k ∈ (if op = 0 ∧ ¬ n ∈ sc then [n] else [])) ∧ (l.Nodup → l1.Nodup)) (fun l1 => [(0, true, .pointer (some ⟨b, 0, none⟩)), (1, true, .map (some bb)), (2, true, .map (some bo))]) (fun l1 => Cls (mapI bb (intM bm) :: mapI bo (setM l1) :: H) (s0 :: S)) ?_ ?_
  · refine W.cond rfl (fun hb => ?_) (fun hb => ?_)
    · have hop : op = 0 ∧ ¬ n ∈ sc := ⟨by grind, (hcnt.mem n).1 (by grind)⟩
      apply W.reg
      apply omv; rfl; rfl
      apply omv; rfl; rfl
      apply OL.op; exact Guard.none; rfl; rfl; apply Pev.nil_ptr; rfl; exact yes
      apply ofa; rfl; rfl; rfl
      apply OL.op; exact Guard.none; rfl; rfl; apply Pev.load_kept; rfl; exact yes; exact .head _; rfl; intro hcond; assumption; intro hcond; assumption; intro hcond; simp only [add_block]; refine NotOwned.mapI (by omega) ?_; refine NotOwned.mapI (by omega) ?_; exact hno _ (by omega)
      apply OL.op; exact Guard.none; rfl; rfl; apply Pev.build; rfl; exact CellsL.agg; rfl; apply Fill.nil; rfl
      apply OL.iput; rfl; rfl; rfl; rfl; apply Hole.s; apply Hole.z
      apply OL.nil
      by_cases hin : n ∈ l
      · rw [iput_setM_in hin]
        skip
        exact At.joinedx l ⟨fun k => by rw [if_pos hop]; simp; exact fun e => e ▸ hin, fun h => h⟩ (by (repeat (first | exact Sub.nil | apply Sub.cons rfl | (refine Sub.cons_eq rfl (congrArg (Value.int .i64) (by first | omega | (simp only; omega))) ?_)))) (fun w' hw' => hw')
      · rw [iput_setM hin]
        skip
        exact At.joinedx (l ++ [n]) ⟨fun k => by rw [if_pos hop]; simp, fun h => nodup_snoc h hin⟩ (by (repeat (first | exact Sub.nil | apply Sub.cons rfl | (refine Sub.cons_eq rfl (congrArg (Value.int .i64) (by first | omega | (simp only; omega))) ?_)))) (fun w' hw' => hw')
    · have hop : ¬ (op = 0 ∧ ¬ n ∈ sc) := fun ⟨h1, h2⟩ => by
        have h3 := (hcnt.mem n).2 h2
        rw [h1, h3] at hb
        simp at hb
      apply W.skip
      exact At.joinedx l ⟨fun k => by rw [if_neg hop]; simp, fun h => h⟩ (by (repeat (first | exact Sub.nil | apply Sub.cons rfl | (refine Sub.cons_eq rfl (congrArg (Value.int .i64) (by first | omega | (simp only; omega))) ?_)))) (fun w' hw' => hw')
  rintro l1 ⟨hl1, hn1⟩
  apply W.seq
  apply W.reg
  apply omv; rfl; rfl
  apply OL.op; exact Guard.none; rfl; rfl; apply Pev.nil_ptr; rfl; exact yes
  apply ofa; rfl; rfl; rfl
  apply OL.op; exact Guard.none; rfl; rfl; apply Pev.load_kept; rfl; exact yes; exact .head _; rfl; intro hcond; assumption; intro hcond; assumption; intro hcond; simp only [add_block]; refine NotOwned.mapI (by omega) ?_; refine NotOwned.mapI (by omega) ?_; exact hno _ (by omega)
  apply OL.op; exact Guard.none; rfl; rfl; apply Pev.len_slice; rfl; exact yes; rfl
  apply omv; rfl; rfl
  apply OL.nil
  with_reducible apply At.next
  apply W.block
  refine W.loop (G := Nat × FG) (fun g => g.1 ≤ kids.length ∧ Cnt g.2.bm sc ∧ (∀ k, k ∈ g.2.l ↔ k ∈ l1 ∨ ∃ m t, m < g.1 ∧ kids[m]? = some t ∧ k ∈ fv t (bound op binds alts m ++ sc)) ∧ (l.Nodup → g.2.l.Nodup)) (fun g => kids.length - g.1)
    (fun g => [(0, true, .pointer (some ⟨b, 0, none⟩)), (1, true, .map (some bb)), (2, true, .map (some bo)), (36, true, .slice y.k.1 kids.length y.k.2), (37, true, .int .i64 (kids.length : Int)), (38, true, .int .i64 (g.1 : Int))])
    (fun g => Cls (mapI bb (intM g.2.bm) :: mapI bo (setM g.2.l) :: H) (s0 :: S)) (0, ⟨bm, l1⟩) ⟨by simp, hcnt, fun k => by simp, hn1⟩ (by (repeat (first | exact Sub.nil | apply Sub.cons rfl | (refine Sub.cons_eq rfl (congrArg (Value.int .i64) (by first | omega | (simp only; omega))) ?_)))) (fun w' hw' => hw') ?_
  rintro ⟨i, ⟨bm1, l2⟩⟩ ⟨hi, hcnt1, hl2, hn2⟩
  simp only at hi hcnt1 hl2 hn2 ⊢
  apply W.seq
  apply W.reg
  apply obn; rfl; rfl; rfl; apply Bin.lss
  apply OL.nil
  with_reducible apply At.next
  apply W.seq
  (refine W.cond rfl (fun hlt => ?_) (fun hlt => ?_)) <;> (try (simp only [Bool.and_eq_true, Bool.or_eq_true, Bool.not_eq_true', Bool.and_eq_false_iff, Bool.or_eq_false_iff, Bool.not_eq_false', decide_eq_true_eq, decide_eq_false_iff_not, Int.not_lt, Int.not_le] at hlt)) <;> (try (exfalso; first | omega | exact hlt trivial | contradiction))
  · have hil : i < kids.length := by omega
    obtain ⟨a, hqa, hab, htrs⟩ := hks (by omega)
    have hab : a.block < s0.heap.size := hab
    have hki : kids[i]? = some kids[i] := List.getElem?_eq_getElem hil
    obtain ⟨b', hcb, hkid⟩ := htrs.get hki
    have hsz := tsz_get hki
    have hhi := high_get hki
    simp only [tsz] at hm
    simp only [high] at hlen
    rw [hqa]
    apply W.skip
    with_reducible apply At.next
    apply W.seq
    apply W.block
    apply W.seq
    apply W.reg
    apply omv; rfl; rfl
    apply OL.op; exact Guard.none; rfl; rfl; apply Pev.idx; rfl; exact yes; rfl; exact yes; rfl; rfl; intro hcond; omega
    apply OL.op; exact Guard.none; rfl; rfl; apply Pev.load_kept; rfl; exact yes; exact .head _; rfl; intro hcond; assumption; intro hcond; (rw [add_block]; assumption); intro hcond; simp only [add_block]; refine NotOwned.mapI (by omega) ?_; refine NotOwned.mapI (by omega) ?_; exact hno _ (by omega)
    apply oas; rfl; rfl
    apply oas; rfl; rfl
    apply OL.nil
    with_reducible apply At.next
    apply W.seq
    apply W.reg
    apply omv; rfl; rfl
    apply omv; rfl; rfl
    refine OL.callE (α := Option Addr × Nat) (fun z => .slice z.1 (bound op binds alts i).length z.2) (fun z => IntsO s0 (low s0) (bound op binds alts i) z.1 ∧ (bound op binds alts i).length ≤ 16) (fun z => Cls (mapI bb (intM bm1) :: mapI bo (setM l2) :: H) (s0 :: S)) rfl rfl (by (repeat (first | exact Args.nil | (apply Args.cons rfl; ((first | exact fun _ => rfl | exact fun h => h | (intro h; simp_all; done))))))) (fun w2 hw2 => ?_) ?_
    · have hsame := hw2.same (.head _) (fun k hk => by (focus ((try simp only [add_block]); (repeat (first | exact NotOwned.nil | exact hno _ (by omega) | refine NotOwned.nothing ?_ | refine NotOwned.nds (hlow _ (by omega)) ?_ | refine NotOwned.mapS (by omega) ?_ | apply NotOwned.bif | refine NotOwned.blk (by omega) ?_ | refine NotOwned.row (by omega) ?_ | refine NotOwned.grid (by assumption) (by omega) ?_ | refine NotOwned.pile (by omega) ?_ | refine NotOwned.pool (by omega) ?_ | refine NotOwned.mapI (by omega) ?_ | refine NotOwned.mapX (by omega) ?_ | refine NotOwned.itI (by omega) ?_)); done)))
      refine (Bound_calls b op n binds kids.length alts y i w2 (low s0) (fun k hk => Nat.lt_of_lt_of_le hk (hw2.kp s0 (.head _)).size) (hnode.stab hsame) (by omega)).mono fun e w3 ⟨q, c, h4, h5, h6, h7⟩ => ⟨(q, c), h4, ⟨h6.stab (fun k hk => (hsame k hk).symm), h7⟩, hw2.ext h5⟩
    rintro ⟨qb, cb⟩ ⟨hIb, hb16⟩
    simp only at hIb hb16 ⊢
    generalize hbl : bound op binds alts i = bl at *
    apply oas; rfl; rfl
    apply OL.nil
    with_reducible apply At.next
    apply W.seq
    apply W.seq
    apply W.reg
    apply omv; rfl; rfl
    apply OL.op; exact Guard.none; rfl; rfl; apply Pev.len_slice; rfl; exact yes; rfl
    apply omv; rfl; rfl
    apply OL.nil
    with_reducible apply At.next
    apply W.block
    refine W.loop (G := Nat × List (Int × Int)) (fun g => g.1 ≤ bl.length ∧ Cnt g.2 (bl.take g.1 ++ sc)) (fun g => bl.length - g.1)
      (fun g => [(0, true, .pointer (some ⟨b, 0, none⟩)), (1, true, .map (some bb)), (2, true, .map (some bo)), (7, true, .pointer (some ⟨b', 0, none⟩)), (8, true, .slice qb bl.length cb), (36, true, .slice (some a) kids.length y.k.2), (37, true, .int .i64 (kids.length : Int)), (38, true, .int .i64 (i : Int)), (46, true, .slice qb bl.length cb), (47, true, .int .i64 (bl.length : Int)), (48, true, .int .i64 (g.1 : Int))])
      (fun g => Cls (mapI bb (intM g.2) :: mapI bo (setM l2) :: H) (s0 :: S)) (0, bm1) ⟨by simp, by simpa using hcnt1⟩ (by (repeat (first | exact Sub.nil | apply Sub.cons rfl | (refine Sub.cons_eq rfl (congrArg (Value.int .i64) (by first | omega | (simp only; omega))) ?_)))) (fun w' hw' => hw') ?_
    rintro ⟨j, bm2⟩ ⟨hj, hcnt2⟩
    simp only at hj hcnt2 ⊢
    apply W.seq
    apply W.reg
    apply obn; rfl; rfl; rfl; apply Bin.lss
    apply OL.nil
    with_reducible apply At.next
    apply W.seq
    (refine W.cond rfl (fun hlt2 => ?_) (fun hlt2 => ?_)) <;> (try (simp only [Bool.and_eq_true, Bool.or_eq_true, Bool.not_eq_true', Bool.and_eq_false_iff, Bool.or_eq_false_iff, Bool.not_eq_false', decide_eq_true_eq, decide_eq_false_iff_not, Int.not_lt, Int.not_le] at hlt2)) <;> (try (exfalso; first | omega | exact hlt2 trivial | contradiction))
    · have hjl : j < bl.length := by omega
      obtain ⟨av, v, hqv, habv, hv, hcv⟩ := hIb.get hjl
      have habv : av.block < s0.heap.size := habv
      have hcb2 : 0 ≤ cf bm2 v ∧ cf bm2 v ≤ 2000000 := by
        have h5 : (bl.take j ++ sc).count v ≤ (bl.take j ++ sc).length := List.count_le_length
        rw [List.length_append, List.length_take] at h5
        rw [hcnt2 v]
        omega
      rw [hqv]
      apply W.skip
      with_reducible apply At.next
      apply W.seq
      apply W.block
      apply W.seq
      apply W.reg
      apply OL.op; exact Guard.none; rfl; rfl; apply Pev.idx; rfl; exact yes; rfl; exact yes; rfl; rfl; intro hcond; omega
      apply OL.op; exact Guard.none; rfl; rfl; apply Pev.load_kept; rfl; exact yes; exact .head _; rfl; intro hcond; assumption; intro hcond; (rw [add_block]; assumption); intro hcond; simp only [add_block]; refine NotOwned.mapI (by omega) ?_; refine NotOwned.mapI (by omega) ?_; exact hno _ (by omega)
      apply oas; rfl; rfl
      apply OL.nil
      with_reducible apply At.next
      apply W.reg
      apply omv; rfl; rfl
      apply omv; rfl; rfl
      apply OL.op; exact Guard.none; rfl; rfl; apply Pev.clookup; rfl; exact yes; rfl; exact yes; rfl; rfl; exact .head _
      apply obn; rfl; rfl; rfl; apply Bin.add_in; omega
      apply OL.iput; rfl; rfl; rfl; rfl; apply Hole.z
      apply OL.nil
      with_reducible apply At.in_normal
      with_reducible apply At.next
      apply W.reg
      apply obn; rfl; rfl; rfl; apply Bin.add_in; omega
      apply omv; rfl; rfl
      apply OL.nil
      rw [iput_intM]
      skip
      refine At.again (j + 1, lput bm2 v (cf bm2 v + 1)) ⟨by simp only; omega, (hcnt2.inc v).perm fun k => ?_⟩ (by simp only; omega) (by (repeat (first | exact Sub.nil | apply Sub.cons rfl | (refine Sub.cons_eq rfl (congrArg (Value.int .i64) (by first | omega | (simp only; omega))) ?_)))) (fun w' hw' => hw')
      simp only [List.take_add_one, hv, Option.toList_some, List.count_append, List.count_cons, List.count_nil]
      omega
    · obtain rfl : j = bl.length := by omega
      rw [List.take_length] at hcnt2
      apply W.exit
      with_reducible apply At.then_exit
      with_reducible apply At.then_exit
      with_reducible apply At.in_exit
      with_reducible apply At.next
      apply W.seq
      apply W.reg
      apply omv; rfl; rfl
      apply omv; rfl; rfl
      apply omv; rfl; rfl
      refine OL.callE (α := FG) (fun _ => .tuple #[]) (fun z => Cnt z.bm (bl ++ sc) ∧ (∀ k, k ∈ z.l ↔ k ∈ l2 ∨ k ∈ fv kids[i] (bl ++ sc)) ∧ (l2.Nodup → z.l.Nodup)) (fun z => Cls (mapI bb (intM z.bm) :: mapI bo (setM z.l) :: H) (s0 :: S)) rfl rfl (by (repeat (first | exact Args.nil | (apply Args.cons rfl; ((first | exact fun _ => rfl | exact fun h => h | (intro h; simp_all; done))))))) (fun w2 hw2 => ?_) ?_
      · refine (ih kids[i] b' (bl ++ sc) bm2 l2 H S w2 (by omega) hkid hcnt2 (by rw [List.length_append]; omega) hno hw2).mono fun e w3 ⟨h4, bm', l', h5, h6, h7, h8⟩ => ⟨⟨bm', l'⟩, h4, ⟨h5, h6, h7⟩, h8⟩
      rintro ⟨bm3, l3⟩ ⟨hcnt3, hl3, hn3⟩
      simp only at hcnt3 hl3 hn3 ⊢
      apply OL.nil
      with_reducible apply At.next
      apply W.seq
      apply W.reg
      apply omv; rfl; rfl
      apply OL.op; exact Guard.none; rfl; rfl; apply Pev.len_slice; rfl; exact yes; rfl
      apply omv; rfl; rfl
      apply OL.nil
      with_reducible apply At.next
      apply W.block
      refine W.loop (G := Nat × List (Int × Int)) (fun g => g.1 ≤ bl.length ∧ Cnt g.2 (bl.drop g.1 ++ sc)) (fun g => bl.length - g.1)
        (fun g => [(0, true, .pointer (some ⟨b, 0, none⟩)), (1, true, .map (some bb)), (2, true, .map (some bo)), (36, true, .slice (some a) kids.length y.k.2), (37, true, .int .i64 (kids.length : Int)), (38, true, .int .i64 (i : Int)), (61, true, .slice qb bl.length cb), (62, true, .int .i64 (bl.length : Int)), (63, true, .int .i64 (g.1 : Int))])
        (fun g => Cls (mapI bb (intM g.2) :: mapI bo (setM l3) :: H) (s0 :: S)) (0, bm3) ⟨by simp, by simpa using hcnt3⟩ (by (repeat (first | exact Sub.nil | apply Sub.cons rfl | (refine Sub.cons_eq rfl (congrArg (Value.int .i64) (by first | omega | (simp only; omega))) ?_)))) (fun w' hw' => hw') ?_
      rintro ⟨j, bm4⟩ ⟨hj2, hcnt4⟩
      simp only at hj2 hcnt4 ⊢
      apply W.seq
      apply W.reg
      apply obn; rfl; rfl; rfl; apply Bin.lss
      apply OL.nil
      with_reducible apply At.next
      apply W.seq
      (refine W.cond rfl (fun hlt3 => ?_) (fun hlt3 => ?_)) <;> (try (simp only [Bool.and_eq_true, Bool.or_eq_true, Bool.not_eq_true', Bool.and_eq_false_iff, Bool.or_eq_false_iff, Bool.not_eq_false', decide_eq_true_eq, decide_eq_false_iff_not, Int.not_lt, Int.not_le] at hlt3)) <;> (try (exfalso; first | omega | exact hlt3 trivial | contradiction))
      · have hjl : j < bl.length := by omega
        obtain ⟨av, v, hqv, habv, hv, hcv⟩ := hIb.get hjl
        have habv : av.block < s0.heap.size := habv
        have hdrop : bl.drop j = v :: bl.drop (j + 1) := by
          obtain ⟨h5, rfl⟩ := List.getElem?_eq_some_iff.1 hv
          rw [List.drop_eq_getElem_cons h5]
        have hcb2 : 0 ≤ cf bm4 v ∧ cf bm4 v ≤ 2000000 := by
          have h5 : (bl.drop j ++ sc).count v ≤ (bl.drop j ++ sc).length := List.count_le_length
          rw [List.length_append, List.length_drop] at h5
          rw [hcnt4 v]
          omega
        rw [hdrop] at hcnt4
        rw [hqv]
        apply W.skip
        with_reducible apply At.next
        apply W.seq
        apply W.block
        apply W.seq
        apply W.reg
        apply OL.op; exact Guard.none; rfl; rfl; apply Pev.idx; rfl; exact yes; rfl; exact yes; rfl; rfl; intro hcond; omega
        apply OL.op; exact Guard.none; rfl; rfl; apply Pev.load_kept; rfl; exact yes; exact .head _; rfl; intro hcond; assumption; intro hcond; (rw [add_block]; assumption); intro hcond; simp only [add_block]; refine NotOwned.mapI (by omega) ?_; refine NotOwned.mapI (by omega) ?_; exact hno _ (by omega)
        apply oas; rfl; rfl
        apply OL.nil
        with_reducible apply At.next
        apply W.reg
        apply omv; rfl; rfl
        apply omv; rfl; rfl
        apply OL.op; exact Guard.none; rfl; rfl; apply Pev.clookup; rfl; exact yes; rfl; exact yes; rfl; rfl; exact .head _
        apply obn; rfl; rfl; rfl; apply Bin.sub_in; omega
        apply OL.iput; rfl; rfl; rfl; rfl; apply Hole.z
        apply OL.nil
        with_reducible apply At.in_normal
        with_reducible apply At.next
        apply W.reg
        apply obn; rfl; rfl; rfl; apply Bin.add_in; omega
        apply omv; rfl; rfl
        apply OL.nil
        rw [iput_intM]
        skip
        exact At.again (j + 1, lput bm4 v (cf bm4 v - 1)) ⟨by simp only; omega, hcnt4.dec⟩ (by simp only; omega) (by (repeat (first | exact Sub.nil | apply Sub.cons rfl | (refine Sub.cons_eq rfl (congrArg (Value.int .i64) (by first | omega | (simp only; omega))) ?_)))) (fun w' hw' => hw')
      · obtain rfl : j = bl.length := by omega
        rw [List.drop_length, List.nil_append] at hcnt4
        apply W.exit
        with_reducible apply At.then_exit
        with_reducible apply At.then_exit
        with_reducible apply At.in_exit
        with_reducible apply At.in_normal
        with_reducible apply At.next
        apply W.reg
        apply obn; rfl; rfl; rfl; apply Bin.add_in; omega
        apply omv; rfl; rfl
        apply OL.nil
        refine At.again (i + 1, ⟨bm4, l3⟩) ⟨by simp only; omega, hcnt4, fun k => ?_, fun h => hn3 (hn2 h)⟩ (by simp only; omega) (by (repeat (first | exact Sub.nil | apply Sub.cons rfl | (refine Sub.cons_eq rfl (congrArg (Value.int .i64) (by first | omega | (simp only; omega))) ?_)))) (fun w' hw' => hw')
        simp only
        rw [hl3, hl2]
        constructor
        · rintro ((h | ⟨m', t, h4, h5, h6⟩) | h)
          · exact .inl h
          · exact .inr ⟨m', t, by omega, h5, h6⟩
          · exact .inr ⟨i, kids[i], by omega, hki, by rw [hbl]; exact h⟩
        · rintro (h | ⟨m', t, h4, h5, h6⟩)
          · exact .inl (.inl h)
          · by_cases e : m' = i
            · subst e
              rw [hki] at h5
              obtain rfl := Option.some.inj h5
              rw [hbl] at h6
              exact .inr h6
            · exact .inl (.inr ⟨m', t, by omega, h5, h6⟩)
  · obtain rfl : i = kids.length := by omega
    apply W.exit
    with_reducible apply At.then_exit
    with_reducible apply At.then_exit
    with_reducible apply At.in_exit
    apply At.end_
    apply At.fin0
    rfl
    intro w' hw'
    refine ⟨rfl, bm1, l2, hcnt1, fun k => ?_, hn2, hw'⟩
    rw [hl2, hl1, fv, List.mem_append, mem_fvs, or_assoc]
    constructor
    · rintro (h | h | ⟨m', t, h4, h5, h6⟩)
      · exact .inl h
      · exact .inr (.inl h)
      · exact .inr (.inr ⟨m', t, h5, by rw [Nat.zero_add]; exact h6⟩)
    · rintro (h | h | ⟨m', t, h5, h6⟩)
      · exact .inl h
      · exact .inr (.inl h)
      · exact .inr (.inr ⟨m', t, (List.getElem?_eq_some_iff.1 h5).1, h5, by rw [Nat.zero_add] at h6; exact h6⟩)
end Go.Proofs.YtlboppiogeaicaaDoor.co
