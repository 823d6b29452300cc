/- The walk of the reference's KindsOf, first half: it tries all kinds. Conditions: none. -/
import Derived.Test.YtaponemcbnnebaaDoorKiH
import Derived.Test.YtaponemcbnnebaaDoorPil
namespace Go.Ki
open Go.Eng Go.RowKit
set_option linter.unusedVariables false
set_option linter.unusedSimpArgs false
/-- a constructor, a data type -/
structure DC where
  nm : ByteArray
  q : Option Addr
  cap : Nat
  args : List Pa
structure DD where
  nm : ByteArray
  params : Nat
  q : Option Addr
  cap : Nat
  cons : List DC
def coc (c : DC) : List Value := [.string c.nm, .slice c.q c.args.length c.cap]
theorem coc_len (c : DC) : (coc c).length = 2 := rfl
def DD.ds (d : DD) : DS := ⟨d.nm, d.params, d.q, d.cons.length, d.cap⟩
def dss (l : List DD) : List DS := l.map DD.ds
theorem dss_length (l : List DD) : (dss l).length = l.length := by simp [dss]
/-- what data types lead to -/
structure DOk (w : World) (B : Nat) (q : Option Addr) (l : List DD) : Prop where
  ds : SlAt w B q (cat dc (dss l))
  co : ∀ d ∈ l, SlAt w B d.q (cat coc d.cons)
  ar : ∀ d ∈ l, ∀ c ∈ d.cons, SlAt w B c.q (cat tcc c.args)
  ty : ∀ d ∈ l, ∀ c ∈ d.cons, ∀ a ∈ c.args, TyC w B a.t (tcc a)
theorem DOk.keep {w w' : World} {B B' : Nat} {q : Option Addr} {l : List DD} (h : DOk w B q l) (hb : ∀ p : Addr, p.block < B → w'.cell? p = w.cell? p) (hB : B ≤ B') : DOk w' B' q l :=
  ⟨h.ds.keep hb hB, fun d hd => (h.co d hd).keep hb hB, fun d hd c hc => (h.ar d hd c hc).keep hb hB, fun d hd c hc a ha => TyC.keep hb hB (h.ty d hd c hc a ha)⟩
/-- all arguments have kind 0 -/
def okA (ds : List DS) (flat : List Int) (i : Nat) (l : List Pa) : Bool := l.all fun a => req (pkR ds flat) (vsR ds flat i) a.t 0
def okC (ds : List DS) (flat : List Int) (i : Nat) (l : List DC) : Bool := l.all fun c => okA ds flat i c.args
def okD (ds : List DS) (flat : List Int) : Nat → List DD → Bool
  | _, [] => true
  | i, d :: r => okC ds flat i d.cons && okD ds flat (i + 1) r
theorem okA_drop {ds : List DS} {flat : List Int} {i j : Nat} {l : List Pa} {a : Pa} (h : l[j]? = some a) : okA ds flat i (l.drop j) = (req (pkR ds flat) (vsR ds flat i) a.t 0 && okA ds flat i (l.drop (j + 1))) := by
  obtain ⟨h1, rfl⟩ := List.getElem?_eq_some_iff.1 h
  rw [List.drop_eq_getElem_cons h1, okA, List.all_cons]; rfl
theorem okC_drop {ds : List DS} {flat : List Int} {i j : Nat} {l : List DC} {a : DC} (h : l[j]? = some a) : okC ds flat i (l.drop j) = (okA ds flat i a.args && okC ds flat i (l.drop (j + 1))) := by
  obtain ⟨h1, rfl⟩ := List.getElem?_eq_some_iff.1 h
  rw [List.drop_eq_getElem_cons h1, okC, List.all_cons]; rfl
theorem okD_drop {ds : List DS} {flat : List Int} {i j : Nat} {l : List DD} {a : DD} (h : l[j]? = some a) : okD ds flat i (l.drop j) = (okC ds flat i a.cons && okD ds flat (i + 1) (l.drop (j + 1))) := by
  obtain ⟨h1, rfl⟩ := List.getElem?_eq_some_iff.1 h
  rw [List.drop_eq_getElem_cons h1, okD]
def p3 (m : Nat) : Nat := 3 ^ m
theorem p3_succ (m : Nat) : p3 (m + 1) = p3 m * 3 := by unfold p3; rw [Nat.pow_succ]
/-- a number's digits -/
def digs (m x : Nat) : List Int := (List.range m).map fun k => ((x / p3 k % 3 : Nat) : Int)
theorem digs_length (m x : Nat) : (digs m x).length = m := by simp [digs]
theorem digs_succ (m x : Nat) : digs (m + 1) x = digs m x ++ [((x / p3 m % 3 : Nat) : Int)] := by simp [digs, List.range_succ]
/-- the kinds that do, among the first -/
def foundR (l : List DD) (m t : Nat) : List (List Int) := ((List.range t).map (digs m)).filter fun f => okD (dss l) f 0 l
theorem foundR_succ (l : List DD) (m t : Nat) : foundR l m (t + 1) = if okD (dss l) (digs m t) 0 l then foundR l m t ++ [digs m t] else foundR l m t := by
  unfold foundR
  rw [List.range_succ, List.map_append, List.filter_append]
  split <;> rename_i h <;> simp [h]
theorem pow3_le {m : Nat} (h : m ≤ 6) : p3 m ≤ 729 := by
  have : 3 ^ m ≤ 3 ^ 6 := Nat.pow_le_pow_right (by omega) h
  exact this
/-- the kind on which all agree -/
def agree (found : List (List Int)) (p : Nat) : Int := if found.all (fun f => decide (f.getD p 0 = (found.headD []).getD p 0)) then (found.headD []).getD p 0 else 0
/-- the reference's answer -/
def kindsR (l : List DD) (m : Nat) : Option (List (List Int)) := if foundR l m (p3 m) = [] then none else
  some ((List.range l.length).map fun i => (List.range ((l.map DD.params).getD i 0)).map fun p => agree (foundR l m (p3 m)) (bsum (dss l) i + p))
theorem foundR_len {l : List DD} {m t : Nat} {f : List Int} (h : f ∈ foundR l m t) : f.length = m := by
  unfold foundR at h
  have := (List.mem_filter.1 h).1
  obtain ⟨x, _, rfl⟩ := List.mem_map.1 this
  exact digs_length m x
theorem agree_yes {f0 : List Int} {FO : List (List Int)} {p : Nat} (h : ∀ (j : Nat) (f : List Int), (f0 :: FO)[j]? = some f → f.getD p 0 = f0.getD p 0) : agree (f0 :: FO) p = f0.getD p 0 := by
  unfold agree
  rw [if_pos]; · rfl
  rw [List.all_eq_true]
  intro f hf
  obtain ⟨j, hj⟩ := List.getElem?_of_mem hf
  exact decide_eq_true (h j f hj)
theorem agree_no {f0 : List Int} {FO : List (List Int)} {p j : Nat} {f : List Int} (hj : (f0 :: FO)[j]? = some f) (h : f.getD p 0 ≠ f0.getD p 0) : agree (f0 :: FO) p = 0 := by
  unfold agree
  rw [if_neg]
  intro ha
  rw [List.all_eq_true] at ha
  exact h (of_decide_eq_true (ha f (List.mem_of_getElem? hj)))
end Go.Ki
namespace Go.Proofs.YtaponemcbnnebaaDoor.ki
open Go.RowKit Go.Eng Go.Ki
set_option linter.unusedVariables false
set_option linter.unusedSimpArgs false
set_option maxRecDepth 100000
theorem ins_snoc (l : List Int) (x : Int) : ins (l ++ [x]) = ins l ++ [.int .i64 x] := by simp [ins]
/-- slices found so far -/
structure FS where
  L : List Sl
  O : Nat → Prop
  R : Nat → Prop
  q : Option Addr
  c : Nat
abbrev FS.items (B : Nat) (g : FS) (H : List Eng.Item) : List Eng.Item := row B g.R g.q g.L.length g.c 29 1 (g.L.map slv) :: pile B g.O g.L :: H
def fs0 : FS := ⟨[], fun _ => False, fun _ => False, none, 0⟩
theorem map_get {α β γ : Type} {f : α → γ} {g : β → γ} {l : List α} {m : List β} (h : l.map f = m.map g) {j : Nat} {y : β} (hy : m[j]? = some y) : ∃ x, l[j]? = some x ∧ f x = g y := by
  have h1 : (m.map g)[j]? = some (g y) := by simp [hy]
  rw [← h, List.getElem?_map] at h1
  cases hx : l[j]? with
  | none => simp [hx] at h1
  | some x =>
    simp [hx] at h1
    exact ⟨x, rfl, h1⟩
theorem ins_at {f : List Int} {k : Nat} (h : k < f.length) : (ins f)[k]? = some (.int .i64 (f.getD k 0)) := by simp [ins, List.getD, List.getElem?_eq_getElem h]
/-- what KindsOf answers -/
def ansV : Option (Option Addr × Nat × List Sl) → Value
  | none => .tuple #[.slice none 0 0, .bool false]
  | some (q, c, rows) => .tuple #[.slice q rows.length c, .bool true]
def ansS (a : Option (Option Addr × Nat × List Sl)) : Option (List Sl) := a.map fun x => x.2.2
structure Ans (w w' : World) (a : Option (Option Addr × Nat × List Sl)) : Prop where
  ext : Ext w w'
  sl : ∀ q c rows, a = some (q, c, rows) → SlAt w' w'.heap.size q (rows.map slv)
  el : ∀ q c rows, a = some (q, c, rows) → ∀ s ∈ rows, SlAt w' w'.heap.size s.q s.xs
theorem KindsOf_calls (qd : Option Addr) (cd : Nat) (l : List DD) (w : World) (hcap : l.length ≤ cd) (hl : l.length ≤ 4096) (hm : bsum (dss l) l.length ≤ 6) (hbn : ∀ d ∈ l, d.cons.length ≤ 9223372036854775807 ∧ ∀ c ∈ d.cons, c.args.length ≤ 9223372036854775807) (hwf : ∀ d ∈ l, ∀ c ∈ d.cons, ∀ a ∈ c.args, ∃ ro, wf a.t ro = true) (h : DOk w w.heap.size qd l) :
    Calls Tryd.prog 13 #[.slice qd l.length cd] w fun e w' => ∃ a : Option (Option Addr × Nat × List Sl), e = .returned (ansV a) ∧ (ansS a).map (fun l => l.map Sl.xs) = (kindsR l (bsum (dss l) l.length)).map (fun l => l.map ins) ∧ Ans w w' a := by
  have hpl : ∀ d ∈ dss l, d.params ≤ 4096 := fun d hd => by
    obtain ⟨i, hi⟩ := List.getElem?_of_mem hd
    have h1 := bsum_succ hi
    have h2 := bsum_mono (ds := dss l) (i := i + 1) (j := (dss l).length) (by have := (List.getElem?_eq_some_iff.1 hi).1; omega) (Nat.le_refl _)
    rw [dss_length] at h2
    omega
  have hdget : ∀ {i : Nat}, i < l.length → ∃ d, l[i]? = some d ∧ (dss l)[i]? = some d.ds ∧ bsum (dss l) (i + 1) = bsum (dss l) i + d.params ∧ bsum (dss l) (i + 1) ≤ bsum (dss l) l.length := fun {i} hi => by
    have hd : l[i]? = some l[i] := List.getElem?_eq_getElem hi
    have hd2 : (dss l)[i]? = some (l[i]).ds := by simp [dss, hd]
    refine ⟨l[i], hd, hd2, bsum_succ hd2, ?_⟩
    have := bsum_mono (ds := dss l) (i := i + 1) (j := (dss l).length) (by rw [dss_length]; omega) (Nat.le_refl _)
    rwa [dss_length] at this
  have hcell : ∀ {i : Nat} {d : DD}, l[i]? = some d → ∃ a, qd = some a ∧ a.block < w.heap.size ∧ CellsAt w (a.add (i * 3)) [.string d.nm, .int .i64 (d.params : Int), .slice d.q d.cons.length d.cap] := fun {i d} hd => by
    obtain ⟨a, d', rfl, hab, hd', hcd⟩ := SlAt.elem h.ds dlen (by decide) (show i < (dss l).length by rw [dss_length]; exact (List.getElem?_eq_some_iff.1 hd).1)
    have : (dss l)[i]? = some d.ds := by simp [dss, hd]
    rw [this] at hd'
    obtain rfl := Option.some.inj hd'
    exact ⟨a, rfl, hab, hcd⟩
  refine enter Tryd.func13 rfl Tryd.ntmps13 rfl (Cls.start w) ?_
  (simp only [argEnv, Nat.zero_add, Nat.reduceAdd])
  apply W.seq
  apply W.reg
  apply oas; rfl; rfl
  apply oas; rfl; rfl
  apply OL.nil
  with_reducible apply At.next
  apply W.seq
  apply W.reg
  apply oas; rfl; rfl
  apply OL.nil
  with_reducible apply At.next
  apply W.seq
  apply W.seq
  apply W.reg
  apply omv; rfl; rfl
  apply OL.op; exact Guard.none; rfl; rfl; apply Pev.len_slice; rfl; exact yes; rfl
  apply omv; rfl; rfl
  apply OL.nil
  with_reducible apply At.next
  apply W.block
  refine W.loop (G := Nat) (fun k => k ≤ l.length) (fun k => l.length - k)
    (fun k => [(0, true, .slice qd l.length cd), (4, true, .int .i64 (bsum (dss l) k : Int)), (27, true, .slice qd l.length cd), (28, true, .int .i64 (l.length : Int)), (29, true, .int .i64 (k : Int))])
    (fun _ => Cls [] [w]) 0 (by omega) (by (repeat (first | exact Sub.nil | apply Sub.cons rfl | (refine Sub.cons_eq rfl (congrArg (Value.int .i64) (by first | omega | (simp only; omega))) ?_)))) (fun w' hw' => hw') ?_
  intro k hk
  apply W.seq
  apply W.reg
  apply obn; rfl; rfl; rfl; apply Bin.lss
  apply OL.nil
  with_reducible apply At.next
  apply W.seq
  (refine W.cond rfl (fun hlt => ?_) (fun hlt => ?_)) <;> (try (simp only [Bool.and_eq_true, Bool.or_eq_true, Bool.not_eq_true', Bool.and_eq_false_iff, Bool.or_eq_false_iff, Bool.not_eq_false', decide_eq_true_eq, decide_eq_false_iff_not, Int.not_lt, Int.not_le] at hlt)) <;> (try (exfalso; first | omega | exact hlt trivial | contradiction))
  · have hkl : k < l.length := by omega
    obtain ⟨d, hd, hd2, hs1, hs2⟩ := hdget hkl
    obtain ⟨a, rfl, hab, hcd⟩ := hcell hd
    apply W.skip
    with_reducible apply At.next
    apply W.seq
    apply W.block
    apply W.seq
    apply W.reg
    apply OL.op; exact Guard.none; rfl; rfl; apply Pev.idx; rfl; exact yes; rfl; exact yes; rfl; rfl; intro hcond; omega
    apply OL.op; exact Guard.none; rfl; rfl; apply Pev.load_keptA; rfl; exact yes; exact .head _; rfl; intro hcond; assumption; rfl; intro hcond; (rw [add_block]; assumption); intro hcond; exact NotOwned.nil
    apply OL.alloc; rfl; rfl; exact CellsL.agg; (intro bk hbk; simp only [AllLe, and_true] at hbk)
    apply OL.storeB; rfl; rfl; exact CellsL.agg; rfl; rfl; rfl; apply Swap.z; apply Put.here; apply Over.cons; apply Over.cons; apply Over.cons; apply Over.nil
    apply OL.nil
    with_reducible apply At.next
    apply W.reg
    apply omv; rfl; rfl
    apply ofa; rfl; rfl; rfl
    apply old; rfl; rfl; exact .head _; rfl; rfl
    apply obn; rfl; rfl; rfl; apply Bin.add_in; omega
    apply oas; rfl; rfl
    apply OL.nil
    with_reducible apply At.in_normal
    with_reducible apply At.next
    apply W.reg
    apply obn; rfl; rfl; rfl; apply Bin.add_in; omega
    apply omv; rfl; rfl
    apply OL.nil
    exact At.again (k + 1) (by omega) (by omega) (by (repeat (first | exact Sub.nil | apply Sub.cons rfl | (refine Sub.cons_eq rfl (congrArg (Value.int .i64) (by first | omega | (simp only; omega))) ?_)))) (fun w' hw' => hw'.thin (by (repeat (first | exact Thin.nil | exact Thin.same | apply Thin.keep | (refine Thin.blk (by assumption) ?_) | (refine Thin.blk (by simp only [AllLe, and_true]; omega) ?_)))))
  obtain rfl : k = l.length := by omega
  clear hlt
  generalize hM : bsum (dss l) l.length = M at hm
  apply W.exit
  with_reducible apply At.then_exit
  with_reducible apply At.then_exit
  with_reducible apply At.in_exit
  with_reducible apply At.next
  apply W.seq
  apply W.reg
  apply oas; rfl; rfl
  apply OL.nil
  with_reducible apply At.next
  apply W.seq
  apply W.seq
  apply W.reg
  apply omv; rfl; rfl
  apply omv; rfl; rfl
  apply OL.nil
  with_reducible apply At.next
  apply W.block
  refine W.loop (G := Nat) (fun k => k ≤ M) (fun k => M - k)
    (fun k => [(0, true, .slice qd l.length cd), (4, true, .int .i64 (M : Int)), (7, true, .int .i64 (p3 k : Int)), (38, true, .int .i64 (M : Int)), (39, true, .int .i64 (k : Int))])
    (fun _ => Cls [] [w]) 0 (by omega) (by (repeat (first | exact Sub.nil | apply Sub.cons rfl | (refine Sub.cons_eq rfl (congrArg (Value.int .i64) (by first | omega | (simp only; omega))) ?_)))) (fun w' hw' => hw') ?_
  intro k hk2
  have hp3 := pow3_le (show k ≤ 6 by omega)
  apply W.seq
  apply W.reg
  apply obn; rfl; rfl; rfl; apply Bin.lss
  apply OL.nil
  with_reducible apply At.next
  apply W.seq
  (refine W.cond rfl (fun hlt => ?_) (fun hlt => ?_)) <;> (try (simp only [Bool.and_eq_true, Bool.or_eq_true, Bool.not_eq_true', Bool.and_eq_false_iff, Bool.or_eq_false_iff, Bool.not_eq_false', decide_eq_true_eq, decide_eq_false_iff_not, Int.not_lt, Int.not_le] at hlt)) <;> (try (exfalso; first | omega | exact hlt trivial | contradiction))
  · apply W.skip
    with_reducible apply At.next
    apply W.seq
    apply W.block
    apply W.reg
    apply omv; rfl; rfl
    apply obn; rfl; rfl; rfl; apply Bin.mul_in; omega
    apply oas; rfl; rfl
    apply OL.nil
    with_reducible apply At.in_normal
    with_reducible apply At.next
    apply W.reg
    apply obn; rfl; rfl; rfl; apply Bin.add_in; omega
    apply omv; rfl; rfl
    apply OL.nil
    exact At.again (k + 1) (by omega) (by omega) (by rw [p3_succ]; (repeat (first | exact Sub.nil | apply Sub.cons rfl | (refine Sub.cons_eq rfl (congrArg (Value.int .i64) (by first | omega | (simp only; omega))) ?_)))) (fun w' hw' => hw'.thin (by (repeat (first | exact Thin.nil | exact Thin.same | apply Thin.keep | (refine Thin.blk (by assumption) ?_) | (refine Thin.blk (by simp only [AllLe, and_true]; omega) ?_)))))
  obtain rfl : k = M := by omega
  clear hlt
  apply W.exit
  with_reducible apply At.then_exit
  with_reducible apply At.then_exit
  with_reducible apply At.in_exit
  with_reducible apply At.next
  apply W.seq
  apply W.reg
  apply oas; rfl; rfl
  apply OL.nil
  with_reducible apply At.next
  apply W.seq
  apply W.seq
  apply W.reg
  apply oas; rfl; rfl
  apply OL.nil
  with_reducible apply At.next
  apply W.block
  generalize hT : p3 k = T at hp3
  refine W.loop (G := Nat × FS) (fun g => g.1 ≤ T ∧ g.2.L.map (fun s => s.xs) = (foundR l k g.1).map ins) (fun g => T - g.1)
    (fun g => [(0, true, .slice qd l.length cd), (4, true, .int .i64 (k : Int)), (7, true, .int .i64 (T : Int)), (8, true, .slice g.2.q g.2.L.length g.2.c), (9, true, .int .i64 (g.1 : Int))])
    (fun g => Cls (g.2.items w.heap.size []) [w]) (0, fs0) ⟨by simp, rfl⟩ (by (repeat (first | exact Sub.nil | apply Sub.cons rfl | (refine Sub.cons_eq rfl (congrArg (Value.int .i64) (by first | omega | (simp only; omega))) ?_)))) (fun w' hw' => (hw'.pile_nil _).row_nil _ _ _) ?_
  rintro ⟨x, ⟨L, Op, Rp, qp, cp⟩⟩ ⟨hx, hL⟩
  simp only [FS.items] at hx hL ⊢
  apply W.seq
  apply W.seq
  apply W.reg
  apply omv; rfl; rfl
  apply omv; rfl; rfl
  apply obn; rfl; rfl; rfl; apply Bin.lss
  apply OL.nil
  with_reducible apply At.next
  (refine W.cond rfl (fun hlt => ?_) (fun hlt => ?_)) <;> (try (simp only [Bool.and_eq_true, Bool.or_eq_true, Bool.not_eq_true', Bool.and_eq_false_iff, Bool.or_eq_false_iff, Bool.not_eq_false', decide_eq_true_eq, decide_eq_false_iff_not, Int.not_lt, Int.not_le] at hlt)) <;> (try (exfalso; first | omega | exact hlt trivial | contradiction))
  · apply W.skip
    with_reducible apply At.next
    apply W.seq
    apply W.block
    apply W.seq
    apply W.reg
    apply oas; rfl; rfl
    apply OL.nil
    with_reducible apply At.next
    apply W.seq
    apply W.seq
    apply W.reg
    apply omv; rfl; rfl
    apply oas; rfl; rfl
    apply oas; rfl; rfl
    apply OL.nil
    with_reducible apply At.next
    apply W.block
    refine W.loop (G := Nat × GP) (fun g => g.1 ≤ k) (fun g => k - g.1)
      (fun g => [(0, true, .slice qd l.length cd), (4, true, .int .i64 (k : Int)), (7, true, .int .i64 (T : Int)), (8, true, .slice qp L.length cp), (9, true, .int .i64 (x : Int)), (10, true, .slice g.2.q g.1 g.2.c), (11, true, .int .i64 (g.1 : Int)), (12, true, .int .i64 ((x / p3 g.1 : Nat) : Int))])
      (fun g => Cls (row w.heap.size g.2.O g.2.q g.1 g.2.c 3 1 (ins (digs g.1 x)) :: row w.heap.size Rp qp L.length cp 29 1 (L.map slv) :: pile w.heap.size Op L :: []) [w]) (0, gp0) (by simp) (by simp only [p3, Nat.pow_zero, Nat.div_one]; (repeat (first | exact Sub.nil | apply Sub.cons rfl | (refine Sub.cons_eq rfl (congrArg (Value.int .i64) (by first | omega | (simp only; omega))) ?_)))) (fun w' hw' => hw'.row_nil _ _ _) ?_
    rintro ⟨j, ⟨Oj, qj, cj⟩⟩ hj
    simp only at hj ⊢
    apply W.seq
    apply W.seq
    apply W.reg
    apply omv; rfl; rfl
    apply omv; rfl; rfl
    apply obn; rfl; rfl; rfl; apply Bin.lss
    apply OL.nil
    with_reducible apply At.next
    (refine W.cond rfl (fun hlt2 => ?_) (fun hlt2 => ?_)) <;> (try (simp only [Bool.and_eq_true, Bool.or_eq_true, Bool.not_eq_true', Bool.and_eq_false_iff, Bool.or_eq_false_iff, Bool.not_eq_false', decide_eq_true_eq, decide_eq_false_iff_not, Int.not_lt, Int.not_le] at hlt2)) <;> (try (exfalso; first | omega | exact hlt2 trivial | contradiction))
    · have hdv : x / p3 (j + 1) = x / p3 j / 3 := by rw [p3_succ, ← Nat.div_div_eq_div_mul]
      have hle : x / p3 j ≤ x := Nat.div_le_self _ _
      have hds := digs_succ j x
      generalize x / p3 j = y at hdv hle hds
      apply W.skip
      with_reducible apply At.next
      apply W.seq
      apply W.block
      apply W.seq
      apply W.reg
      apply omv; rfl; rfl
      apply omv; rfl; rfl
      apply obn; rfl; rfl; rfl; apply Bin.rem_in; omega
      apply OL.buildSlice; rfl; rfl; rfl; apply Elems.cons rfl; exact CellsL.one rfl; rfl; apply Elems.nil; apply App.cons; apply App.nil; rfl; rfl; (intro bk hbk; simp only [AllLe, and_true] at hbk)
      apply OL.append; rfl; rfl; rfl; rfl; apply Hole.s; apply Hole.z; exact .head _; apply Take.succ; apply Take.zero; rfl; rfl; exact ⟨_, .head _, Nat.le_refl _⟩; omega; intro O1 g1 cap1
      apply oas; rfl; rfl
      apply OL.nil
      with_reducible apply At.next
      apply W.reg
      apply omv; rfl; rfl
      apply obn; rfl; rfl; rfl; apply Bin.quo_in; omega
      apply oas; rfl; rfl
      apply OL.nil
      with_reducible apply At.in_normal
      with_reducible apply At.next
      apply W.reg
      apply omv; rfl; rfl
      apply obn; rfl; rfl; rfl; apply Bin.add_in; omega
      apply oas; rfl; rfl
      apply OL.nil
      refine At.again (j + 1, ⟨O1, some ⟨g1, 0, none⟩, cap1⟩) (by simp only; omega) (by simp only; omega) (by (repeat (first | exact Sub.nil | apply Sub.cons rfl | (refine Sub.cons_eq rfl (congrArg (Value.int .i64) (by first | omega | (simp only; omega))) ?_)))) (fun w' hw' => by
        rw [hds, ins_snoc]
        exact hw'.thin (by (repeat (first | exact Thin.nil | exact Thin.same | apply Thin.keep | (refine Thin.blk (by assumption) ?_) | (refine Thin.blk (by simp only [AllLe, and_true]; omega) ?_)))))
    · obtain rfl : j = k := by omega
      clear hlt2 hj
      have hFl := digs_length j x
      have hfr := foundR_succ l j x
      generalize hF : digs j x = F at hFl hfr
      generalize hV : okD (dss l) F 0 l = V at hfr
      have hkin : ∀ (i : Nat) (d : DD) (c : DC) (p : Pa) (w2 : World), l[i]? = some d → c ∈ d.cons → p ∈ c.args → ∀ H : List Eng.Item, (∀ k, k < w.heap.size → NotOwned H k) → row w.heap.size Oj qj j cj 3 1 (ins F) ∈ H → Cls H [w] w2 →
          Calls Tryd.prog 26 [.slice qd l.length cd, .slice qj j cj, .int .i64 (i : Int), .agg (tcc p).toArray, .int .i64 0].toArray w2 fun e w' => e = .returned (.bool (req (pkR (dss l) F) (vsR (dss l) F i) p.t 0)) ∧ Cls H [w] w' := fun i d c p w2 hd hc hp H hno hr hw2 => by
        have hbel := hw2.below (s := w) (.head _) (Nat.le_refl _) hno
        have h2 := h.keep hbel (hw2.kp w (.head _)).size
        have hdm := List.mem_of_getElem? hd
        obtain ⟨ro, hwp⟩ := hwf d hdm c hc p hp
        have hkd := kinded_calls qd qj cd cj i (dss l) F (by rw [dss_length]; exact (List.getElem?_eq_some_iff.1 hd).1) (by rw [dss_length]; exact hcap) (by rw [dss_length]; exact hl) hpl (by rw [dss_length, hM, hFl]) _ p ro 0 w2 (Nat.le_refl _) (h2.ty d hdm c hc p hp) hwp h2.ds (SlAt.of_row (hw2.item hr))
        rw [dss_length, hFl] at hkd
        exact hkd.mono fun e w3 h => ⟨h.1, hw2.ext h.2⟩
      apply W.exit
      with_reducible apply At.then_exit
      with_reducible apply At.then_exit
      with_reducible apply At.in_exit
      with_reducible apply At.next
      apply W.seq
      apply W.reg
      apply oas; rfl; rfl
      apply OL.nil
      with_reducible apply At.next
      apply W.seq
      apply W.seq
      apply W.reg
      apply omv; rfl; rfl
      apply OL.op; exact Guard.none; rfl; rfl; apply Pev.len_slice; rfl; exact yes; rfl
      apply omv; rfl; rfl
      apply OL.nil
      with_reducible apply At.next
      apply W.block
      refine W.loop (G := Nat × Bool) (fun g => g.1 ≤ l.length ∧ (g.2 && okD (dss l) F g.1 (l.drop g.1)) = V) (fun g => l.length - g.1)
        (fun g => [(0, true, .slice qd l.length cd), (4, true, .int .i64 (j : Int)), (7, true, .int .i64 (T : Int)), (8, true, .slice qp L.length cp), (9, true, .int .i64 (x : Int)), (10, true, .slice qj j cj), (13, true, .bool g.2), (63, true, .int .i64 (l.length : Int)), (64, true, .int .i64 (g.1 : Int))])
        (fun _ => Cls (row w.heap.size Oj qj j cj 3 1 (ins F) :: row w.heap.size Rp qp L.length cp 29 1 (L.map slv) :: pile w.heap.size Op L :: []) [w]) (0, true) ⟨by simp, by simpa using hV⟩ (by (repeat (first | exact Sub.nil | apply Sub.cons rfl | (refine Sub.cons_eq rfl (congrArg (Value.int .i64) (by first | omega | (simp only; omega))) ?_)))) (fun w' hw' => hw') ?_
      rintro ⟨i, b⟩ ⟨hi, hb⟩
      simp only at hi hb ⊢
      apply W.seq
      apply W.reg
      apply obn; rfl; rfl; rfl; apply Bin.lss
      apply OL.nil
      with_reducible apply At.next
      apply W.seq
      (refine W.cond rfl (fun hlt3 => ?_) (fun hlt3 => ?_)) <;> (try (simp only [Bool.and_eq_true, Bool.or_eq_true, Bool.not_eq_true', Bool.and_eq_false_iff, Bool.or_eq_false_iff, Bool.not_eq_false', decide_eq_true_eq, decide_eq_false_iff_not, Int.not_lt, Int.not_le] at hlt3)) <;> (try (exfalso; first | omega | exact hlt3 trivial | contradiction))
      · have hil : i < l.length := by omega
        obtain ⟨d, hd, hd2, _, _⟩ := hdget hil
        have hdm := List.mem_of_getElem? hd
        have hbn1 := (hbn d hdm).1
        obtain ⟨a, rfl, hab, hcd⟩ := hcell hd
        rw [okD_drop hd] at hb
        apply W.skip
        with_reducible apply At.next
        apply W.seq
        apply W.block
        apply W.seq
        apply W.reg
        apply omv; rfl; rfl
        apply oas; rfl; rfl
        apply OL.nil
        with_reducible apply At.next
        apply W.seq
        apply W.reg
        apply omv; rfl; rfl
        apply omv; rfl; rfl
        apply OL.op; exact Guard.none; rfl; rfl; apply Pev.idx; rfl; exact yes; rfl; exact yes; rfl; rfl; intro hcond; omega
        apply OL.op; exact Guard.none; rfl; rfl; apply Pev.fldA; rfl; exact yes; rfl
        apply OL.op; exact Guard.none; rfl; rfl; apply Pev.load_kept; rfl; exact yes; exact .head _; rfl; intro hcond; apply CellsAt.at_ (by assumption) rfl; intro hcond; (simp only [add_block]; assumption); intro hcond; simp only [add_block]; refine NotOwned.row (by omega) ?_; refine NotOwned.row (by omega) ?_; refine NotOwned.pile (by omega) ?_; exact NotOwned.nil
        apply OL.op; exact Guard.none; rfl; rfl; apply Pev.len_slice; rfl; exact yes; rfl
        apply omv; rfl; rfl
        apply OL.nil
        with_reducible apply At.next
        apply W.block
        refine W.loop (G := Nat × Bool) (fun g => g.1 ≤ d.cons.length ∧ (g.2 && (okC (dss l) F i (d.cons.drop g.1) && okD (dss l) F (i + 1) (l.drop (i + 1)))) = V) (fun g => d.cons.length - g.1)
          (fun g => [(0, true, .slice (some a) l.length cd), (4, true, .int .i64 (j : Int)), (7, true, .int .i64 (T : Int)), (8, true, .slice qp L.length cp), (9, true, .int .i64 (x : Int)), (10, true, .slice qj j cj), (13, true, .bool g.2), (14, true, .int .i64 (i : Int)), (63, true, .int .i64 (l.length : Int)), (64, true, .int .i64 (i : Int)), (71, true, .slice d.q d.cons.length d.cap), (72, true, .int .i64 (d.cons.length : Int)), (73, true, .int .i64 (g.1 : Int))])
          (fun _ => Cls (row w.heap.size Oj qj j cj 3 1 (ins F) :: row w.heap.size Rp qp L.length cp 29 1 (L.map slv) :: pile w.heap.size Op L :: []) [w]) (0, b) ⟨by simp, hb⟩ (by (repeat (first | exact Sub.nil | apply Sub.cons rfl | (refine Sub.cons_eq rfl (congrArg (Value.int .i64) (by first | omega | (simp only; omega))) ?_)))) (fun w' hw' => hw') ?_
        clear hb
        rintro ⟨n2, b⟩ ⟨hn2, hb⟩
        simp only at hn2 hb ⊢
        apply W.seq
        apply W.reg
        apply obn; rfl; rfl; rfl; apply Bin.lss
        apply OL.nil
        with_reducible apply At.next
        apply W.seq
        (refine W.cond rfl (fun hlt4 => ?_) (fun hlt4 => ?_)) <;> (try (simp only [Bool.and_eq_true, Bool.or_eq_true, Bool.not_eq_true', Bool.and_eq_false_iff, Bool.or_eq_false_iff, Bool.not_eq_false', decide_eq_true_eq, decide_eq_false_iff_not, Int.not_lt, Int.not_le] at hlt4)) <;> (try (exfalso; first | omega | exact hlt4 trivial | contradiction))
        · have hnl : n2 < d.cons.length := by omega
          obtain ⟨ac, c, hqc, habc, hc, hcc⟩ := SlAt.elem (h.co d hdm) coc_len (by decide) hnl
          rw [hqc]
          have hcm := List.mem_of_getElem? hc
          have hbn2 := (hbn d hdm).2 c hcm
          simp only [coc] at hcc
          rw [okC_drop hc] at hb
          apply W.skip
          with_reducible apply At.next
          apply W.seq
          apply W.block
          apply W.seq
          apply W.reg
          apply OL.op; exact Guard.none; rfl; rfl; apply Pev.idx; rfl; exact yes; rfl; exact yes; rfl; rfl; intro hcond; omega
          apply OL.op; exact Guard.none; rfl; rfl; apply Pev.load_keptA; rfl; exact yes; exact .head _; rfl; intro hcond; assumption; rfl; intro hcond; (rw [add_block]; assumption); intro hcond; simp only [add_block]; refine NotOwned.row (by omega) ?_; refine NotOwned.row (by omega) ?_; refine NotOwned.pile (by omega) ?_; exact NotOwned.nil
          apply OL.alloc; rfl; rfl; exact CellsL.agg; (intro bk hbk; simp only [AllLe, and_true] at hbk)
          apply OL.storeB; rfl; rfl; exact CellsL.agg; rfl; rfl; rfl; apply Swap.z; apply Put.here; apply Over.cons; apply Over.cons; apply Over.nil
          apply OL.nil
          with_reducible apply At.next
          apply W.seq
          apply W.reg
          apply ofa; rfl; rfl; rfl
          apply old; rfl; rfl; exact .head _; rfl; rfl
          apply OL.op; exact Guard.none; rfl; rfl; apply Pev.len_slice; rfl; exact yes; rfl
          apply omv; rfl; rfl
          apply OL.nil
          with_reducible apply At.next
          apply W.block
          refine W.loop (G := Nat × Bool) (fun g => g.1 ≤ c.args.length ∧ (g.2 && (okA (dss l) F i (c.args.drop g.1) && okC (dss l) F i (d.cons.drop (n2 + 1)) && okD (dss l) F (i + 1) (l.drop (i + 1)))) = V) (fun g => c.args.length - g.1)
            (fun g => [(0, true, .slice (some a) l.length cd), (4, true, .int .i64 (j : Int)), (7, true, .int .i64 (T : Int)), (8, true, .slice qp L.length cp), (9, true, .int .i64 (x : Int)), (10, true, .slice qj j cj), (13, true, .bool g.2), (14, true, .int .i64 (i : Int)), (63, true, .int .i64 (l.length : Int)), (64, true, .int .i64 (i : Int)), (71, true, .slice (some ac) d.cons.length d.cap), (72, true, .int .i64 (d.cons.length : Int)), (73, true, .int .i64 (n2 : Int)), (78, true, .slice c.q c.args.length c.cap), (79, true, .int .i64 (c.args.length : Int)), (80, true, .int .i64 (g.1 : Int))])
            (fun _ => Cls (row w.heap.size Oj qj j cj 3 1 (ins F) :: row w.heap.size Rp qp L.length cp 29 1 (L.map slv) :: pile w.heap.size Op L :: []) [w]) (0, b) ⟨by simp, hb⟩ (by (repeat (first | exact Sub.nil | apply Sub.cons rfl | (refine Sub.cons_eq rfl (congrArg (Value.int .i64) (by first | omega | (simp only; omega))) ?_)))) (fun w' hw' => hw'.thin (by (repeat (first | exact Thin.nil | exact Thin.same | apply Thin.keep | (refine Thin.blk (by assumption) ?_) | (refine Thin.blk (by simp only [AllLe, and_true]; omega) ?_))))) ?_
          clear hb
          rintro ⟨n3, b⟩ ⟨hn3, hb⟩
          simp only at hn3 hb ⊢
          apply W.seq
          apply W.reg
          apply obn; rfl; rfl; rfl; apply Bin.lss
          apply OL.nil
          with_reducible apply At.next
          apply W.seq
          (refine W.cond rfl (fun hlt5 => ?_) (fun hlt5 => ?_)) <;> (try (simp only [Bool.and_eq_true, Bool.or_eq_true, Bool.not_eq_true', Bool.and_eq_false_iff, Bool.or_eq_false_iff, Bool.not_eq_false', decide_eq_true_eq, decide_eq_false_iff_not, Int.not_lt, Int.not_le] at hlt5)) <;> (try (exfalso; first | omega | exact hlt5 trivial | contradiction))
          · have hnl3 : n3 < c.args.length := by omega
            obtain ⟨aa, p, hqa, haba, hpp, hca⟩ := SlAt.elem (h.ar d hdm c hcm) tcc_len (by decide) hnl3
            rw [hqa]
            have hpm := List.mem_of_getElem? hpp
            simp only [tcc] at hca
            rw [okA_drop hpp] at hb
            apply W.skip
            with_reducible apply At.next
            apply W.seq
            apply W.block
            apply W.seq
            apply W.reg
            apply OL.op; exact Guard.none; rfl; rfl; apply Pev.idx; rfl; exact yes; rfl; exact yes; rfl; rfl; intro hcond; omega
            apply OL.op; exact Guard.none; rfl; rfl; apply Pev.load_keptA; rfl; exact yes; exact .head _; rfl; intro hcond; assumption; rfl; intro hcond; (rw [add_block]; assumption); intro hcond; simp only [add_block]; refine NotOwned.row (by omega) ?_; refine NotOwned.row (by omega) ?_; refine NotOwned.pile (by omega) ?_; exact NotOwned.nil
            apply OL.alloc; rfl; rfl; exact CellsL.agg; (intro bk hbk; simp only [AllLe, and_true] at hbk)
            apply OL.storeB; rfl; rfl; exact CellsL.agg; rfl; rfl; rfl; apply Swap.z; apply Put.here; apply Over.cons; apply Over.cons; apply Over.cons; apply Over.cons; apply Over.nil
            apply OL.nil
            with_reducible apply At.next
            apply W.reg
            apply omv; rfl; rfl
            apply omv; rfl; rfl
            apply OL.op; exact Guard.yes rfl rfl; rfl; rfl; apply Pev.move; rfl; exact yes
            apply OL.op; exact Guard.yes rfl rfl; rfl; rfl; apply Pev.move; rfl; exact yes
            apply OL.op; exact Guard.yes rfl rfl; rfl; rfl; apply Pev.move; rfl; exact yes
            apply OL.op; exact Guard.yes rfl rfl; rfl; rfl; apply Pev.load_blkA; rfl; exact yes; exact .head _; rfl; apply Take.succ; apply Take.succ; apply Take.succ; apply Take.succ; apply Take.zero
            (((first | (with_reducible apply OL.op) | (with_reducible apply QL.op)); ((first | exact Guard.none | exact Guard.yes rfl rfl | exact Guard.no rfl rfl | exact Guard.cyes rfl rfl | exact Guard.cno rfl rfl)); rfl; rfl); (exact Pev.call rfl (by (repeat (first | exact Args.nil | (apply Args.cons rfl; ((first | exact fun _ => rfl | exact fun h => h | (intro h; simp_all; done))))))) (fun _ w2 hw2 => hkin i d c p w2 hd hcm hpm _ (fun k hk => by (focus ((try simp only [add_block]); (repeat (first | exact NotOwned.nil | exact hno _ (by omega) | refine NotOwned.nothing ?_ | refine NotOwned.nds (hlow _ (by omega)) ?_ | refine NotOwned.mapS (by omega) ?_ | apply NotOwned.bif | refine NotOwned.blk (by omega) ?_ | refine NotOwned.row (by omega) ?_ | refine NotOwned.grid (by assumption) (by omega) ?_ | refine NotOwned.pile (by omega) ?_)); done))) (by (repeat (first | exact List.Mem.head _ | apply List.Mem.tail))) hw2)))
            apply OL.op; exact Guard.none; rfl; rfl; apply Pev.pick_and; rfl; exact yes; rfl; exact fun h => h
            apply oas; rfl; rfl
            apply OL.nil
            with_reducible apply At.in_normal
            with_reducible apply At.next
            apply W.reg
            apply obn; rfl; rfl; rfl; apply Bin.add_in; omega
            apply omv; rfl; rfl
            apply OL.nil
            exact At.again (n3 + 1, b && req (pkR (dss l) F) (vsR (dss l) F i) p.t 0) ⟨by simp only; omega, by simpa only [Bool.and_assoc] using hb⟩ (by simp only; omega) (by (repeat (first | exact Sub.nil | apply Sub.cons rfl | (refine Sub.cons_eq rfl (congrArg (Value.int .i64) (by first | omega | (simp only; omega))) ?_)))) (fun w' hw' => hw'.thin (by (repeat (first | exact Thin.nil | exact Thin.same | apply Thin.keep | (refine Thin.blk (by assumption) ?_) | (refine Thin.blk (by simp only [AllLe, and_true]; omega) ?_)))))
          · obtain rfl : n3 = c.args.length := by omega
            rw [List.drop_length] at hb
            apply W.exit
            with_reducible apply At.then_exit
            with_reducible apply At.then_exit
            with_reducible apply At.in_exit
            with_reducible apply At.in_normal
            with_reducible apply At.next
            apply W.reg
            apply obn; rfl; rfl; rfl; apply Bin.add_in; omega
            apply omv; rfl; rfl
            apply OL.nil
            exact At.again (n2 + 1, b) ⟨by simp only; omega, by simpa [okA] using hb⟩ (by simp only; omega) (by (repeat (first | exact Sub.nil | apply Sub.cons rfl | (refine Sub.cons_eq rfl (congrArg (Value.int .i64) (by first | omega | (simp only; omega))) ?_)))) (fun w' hw' => hw'.thin (by (repeat (first | exact Thin.nil | exact Thin.same | apply Thin.keep | (refine Thin.blk (by assumption) ?_) | (refine Thin.blk (by simp only [AllLe, and_true]; omega) ?_)))))
        · obtain rfl : n2 = d.cons.length := by omega
          rw [List.drop_length] at hb
          apply W.exit
          with_reducible apply At.then_exit
          with_reducible apply At.then_exit
          with_reducible apply At.in_exit
          with_reducible apply At.in_normal
          with_reducible apply At.next
          apply W.reg
          apply obn; rfl; rfl; rfl; apply Bin.add_in; omega
          apply omv; rfl; rfl
          apply OL.nil
          exact At.again (i + 1, b) ⟨by simp only; omega, by simpa [okC] using hb⟩ (by simp only; omega) (by (repeat (first | exact Sub.nil | apply Sub.cons rfl | (refine Sub.cons_eq rfl (congrArg (Value.int .i64) (by first | omega | (simp only; omega))) ?_)))) (fun w' hw' => hw'.thin (by (repeat (first | exact Thin.nil | exact Thin.same | apply Thin.keep | (refine Thin.blk (by assumption) ?_) | (refine Thin.blk (by simp only [AllLe, and_true]; omega) ?_)))))
      · obtain rfl : i = l.length := by omega
        have hbV : b = V := by simpa [okD] using hb
        subst hbV
        clear hkin
        apply W.exit
        with_reducible apply At.then_exit
        with_reducible apply At.then_exit
        with_reducible apply At.in_exit
        with_reducible apply At.next
        apply W.seq
        apply W.reg
        apply omv; rfl; rfl
        apply OL.nil
        with_reducible apply At.next
        refine W.cond rfl (fun hb2 => ?_) (fun hb2 => ?_)
        · rw [if_pos hb2] at hfr
          have hL9 : L.length ≤ 729 := by
            have h1 := congrArg List.length hL
            simp only [List.length_map] at h1
            have h2 : (foundR l j x).length ≤ x := by
              unfold foundR
              refine Nat.le_trans (List.length_filter_le _ _) ?_
              simp
            omega
          apply W.reg
          apply omv; rfl; rfl
          apply omv; rfl; rfl
          apply OL.buildSlice; rfl; rfl; rfl; apply Elems.cons rfl; exact CellsL.one rfl; rfl; apply Elems.nil; apply App.cons; apply App.nil; rfl; rfl; (intro bk hbk; simp only [AllLe, and_true] at hbk)
          apply OL.append; rfl; rfl; rfl; rfl; apply Hole.s; apply Hole.s; apply Hole.z; exact .head _; apply Take.succ; apply Take.zero; rfl; rfl; exact ⟨_, .head _, Nat.le_refl _⟩; omega; intro O1 g1 cap1
          apply oas; rfl; rfl
          apply OL.nil
          with_reducible apply At.in_normal
          with_reducible apply At.next
          apply W.reg
          apply omv; rfl; rfl
          apply obn; rfl; rfl; rfl; apply Bin.add_in; omega
          apply oas; rfl; rfl
          apply OL.nil
          refine At.again (x + 1, ⟨L ++ [⟨qj, cj, ins F⟩], fun k => Oj k ∨ Op k, O1, some ⟨g1, 0, none⟩, cap1⟩) ⟨by simp only; omega, by simp only; rw [hfr]; simp [hL]⟩ (by simp only; omega) (by simp only [List.length_append, List.length_cons, List.length_nil]; (repeat (first | exact Sub.nil | apply Sub.cons rfl | (refine Sub.cons_eq rfl (congrArg (Value.int .i64) (by first | omega | (simp only; omega))) ?_)))) (fun w' hw' => ?_)
          have h1 := hw'.thin (H' := row w.heap.size Oj qj j cj 3 1 (ins F) :: row w.heap.size O1 (some ⟨g1, 0, none⟩) (L.length + 1) cap1 29 1 (L.map slv ++ [.slice qj j cj]) :: pile w.heap.size Op L :: []) (by (repeat (first | exact Thin.nil | exact Thin.same | apply Thin.keep | (refine Thin.blk (by assumption) ?_) | (refine Thin.blk (by simp only [AllLe, and_true]; omega) ?_))))
          have h3 := (h1.perm (List.Perm.cons _ (List.Perm.swap _ _ _))).pile_push.flip
          have e1 : (L ++ [(⟨qj, cj, ins F⟩ : Sl)]).map slv = L.map slv ++ [.slice qj j cj] := by simp [slv, ins_length, hFl]
          simp only [e1, List.length_append, List.length_cons, List.length_nil]
          exact h3
        · rw [if_neg (by simpa using hb2)] at hfr
          apply W.skip
          with_reducible apply At.in_normal
          with_reducible apply At.next
          apply W.reg
          apply omv; rfl; rfl
          apply obn; rfl; rfl; rfl; apply Bin.add_in; omega
          apply oas; rfl; rfl
          apply OL.nil
          exact At.again (x + 1, ⟨L, Op, Rp, qp, cp⟩) ⟨by simp only; omega, by simp only; rw [hfr]; exact hL⟩ (by simp only; omega) (by (repeat (first | exact Sub.nil | apply Sub.cons rfl | (refine Sub.cons_eq rfl (congrArg (Value.int .i64) (by first | omega | (simp only; omega))) ?_)))) (fun w' hw' => hw'.thin (Thin.any (fun k hk => AllLe.up (AllLe.mk (Cls.start w)) hk.1) Thin.same))
  · obtain rfl : x = T := by omega
    apply W.exit
    with_reducible apply At.then_exit
    with_reducible apply At.then_exit
    with_reducible apply At.in_exit
    with_reducible apply At.next
    apply W.seq
    apply W.seq
    apply W.reg
    apply omv; rfl; rfl
    apply OL.op; exact Guard.none; rfl; rfl; apply Pev.len_slice; rfl; exact yes; rfl
    apply obn; rfl; rfl; rfl; apply Bin.eql
    apply OL.nil
    with_reducible apply At.next
    refine W.cond rfl (fun hb => ?_) (fun hb => ?_)
    · have hL0 : L = [] := List.length_eq_zero_iff.1 (by simp at hb; simpa using hb)
      subst hL0
      have hf0 : foundR l k x = [] := by simpa using hL.symm
      apply W.seq
      apply W.reg
      apply oas; rfl; rfl
      apply oas; rfl; rfl
      apply OL.nil
      with_reducible apply At.next
      apply W.ret
      with_reducible apply At.then_ret
      ((with_reducible apply At.fin2); rfl; rfl; rfl; intro w' hw')
      refine ⟨none, rfl, ?_, by (exact hw'.toExt (by (repeat (first | exact List.Mem.head _ | apply List.Mem.tail))) (fun k hk => by (focus ((try simp only [add_block]); (repeat (first | exact NotOwned.nil | exact hno _ (by omega) | refine NotOwned.nothing ?_ | refine NotOwned.nds (hlow _ (by omega)) ?_ | refine NotOwned.mapS (by omega) ?_ | apply NotOwned.bif | refine NotOwned.blk (by omega) ?_ | refine NotOwned.row (by omega) ?_ | refine NotOwned.grid (by assumption) (by omega) ?_ | refine NotOwned.pile (by omega) ?_)); done)))), fun q c rows e => (by cases e), fun q c rows e => (by cases e)⟩
      simp [kindsR, ansS, hT, hf0]
    · have hL729 : L.length ≤ 729 := by
        have h1 := congrArg List.length hL
        simp only [List.length_map] at h1
        have h2 : (foundR l k x).length ≤ x := by
          unfold foundR
          refine Nat.le_trans (List.length_filter_le _ _) ?_
          simp
        omega
      have hL1 : 0 < L.length := by
        have : ¬ L.length = 0 := fun e => by simp [e] at hb
        omega
      clear hlt hb
      have hfe : foundR l k x ≠ [] := fun e => by
        rw [e] at hL
        simp at hL
        rw [hL] at hL1
        simp at hL1
      have hfl : ∀ f ∈ foundR l k x, f.length = k := fun f hf => foundR_len hf
      have hKR : kindsR l k = some ((List.range l.length).map fun i => (List.range ((l.map DD.params).getD i 0)).map fun p => agree (foundR l k x) (bsum (dss l) i + p)) := by
        unfold kindsR
        rw [hT, if_neg hfe]
      generalize foundR l k x = FO at hL hfe hfl hKR
      obtain ⟨f0, FO, rfl⟩ := List.exists_cons_of_ne_nil hfe
      clear hfe
      refine W.fact (fun w2 hw2 => row_some (hw2.item (.head _)) hL1) ?_
      rintro ⟨gb, rfl⟩
      apply W.skip
      with_reducible apply At.next
      apply W.seq
      apply W.reg
      apply oas; rfl; rfl
      apply OL.nil
      with_reducible apply At.next
      apply W.seq
      apply W.reg
      apply oas; rfl; rfl
      apply OL.nil
      with_reducible apply At.next
      apply W.seq
      apply W.seq
      apply W.reg
      apply omv; rfl; rfl
      apply OL.op; exact Guard.none; rfl; rfl; apply Pev.len_slice; rfl; exact yes; rfl
      apply omv; rfl; rfl
      apply OL.nil
      with_reducible apply At.next
      apply W.block
      refine W.loop (G := Nat × FS) (fun g => g.1 ≤ l.length ∧ g.2.L.map (fun s => s.xs) = ((List.range g.1).map fun i => (List.range ((l.map DD.params).getD i 0)).map fun p => agree (f0 :: FO) (bsum (dss l) i + p)).map ins) (fun g => l.length - g.1)
        (fun g => [(8, true, .slice (some ⟨gb, 0, none⟩) L.length cp), (19, true, .slice g.2.q g.2.L.length g.2.c), (20, true, .int .i64 (bsum (dss l) g.1 : Int)), (103, true, .slice qd l.length cd), (104, true, .int .i64 (l.length : Int)), (105, true, .int .i64 (g.1 : Int))])
        (fun g => Cls (g.2.items w.heap.size (row w.heap.size Rp (some ⟨gb, 0, none⟩) L.length cp 29 1 (L.map slv) :: pile w.heap.size Op L :: [])) [w]) (0, fs0) ⟨by simp, rfl⟩ (by (repeat (first | exact Sub.nil | apply Sub.cons rfl | (refine Sub.cons_eq rfl (congrArg (Value.int .i64) (by first | omega | (simp only; omega))) ?_)))) (fun w' hw' => (hw'.pile_nil _).row_nil _ _ _) ?_
      rintro ⟨i, ⟨L2, O2, R2, q2, c2⟩⟩ ⟨hi, hL2⟩
      simp only [FS.items] at hi hL2 ⊢
      have hL2l : L2.length = i := by have := congrArg List.length hL2; simpa using this
      apply W.seq
      apply W.reg
      apply obn; rfl; rfl; rfl; apply Bin.lss
      apply OL.nil
      with_reducible apply At.next
      apply W.seq
      (refine W.cond rfl (fun hlt => ?_) (fun hlt => ?_)) <;> (try (simp only [Bool.and_eq_true, Bool.or_eq_true, Bool.not_eq_true', Bool.and_eq_false_iff, Bool.or_eq_false_iff, Bool.not_eq_false', decide_eq_true_eq, decide_eq_false_iff_not, Int.not_lt, Int.not_le] at hlt)) <;> (try (exfalso; first | omega | exact hlt trivial | contradiction))
      · have hil : i < l.length := by omega
        obtain ⟨d, hd, hd2, hs1, hs2⟩ := hdget hil
        obtain ⟨a, rfl, hab, hcd⟩ := hcell hd
        rw [hM] at hs2
        apply W.skip
        with_reducible apply At.next
        apply W.seq
        apply W.block
        apply W.seq
        apply W.reg
        apply OL.op; exact Guard.none; rfl; rfl; apply Pev.idx; rfl; exact yes; rfl; exact yes; rfl; rfl; intro hcond; omega
        apply OL.op; exact Guard.none; rfl; rfl; apply Pev.load_keptA; rfl; exact yes; exact .head _; rfl; intro hcond; assumption; rfl; intro hcond; (rw [add_block]; assumption); intro hcond; simp only [add_block]; refine NotOwned.row (by omega) ?_; refine NotOwned.pile (by omega) ?_; refine NotOwned.row (by omega) ?_; refine NotOwned.pile (by omega) ?_; exact NotOwned.nil
        apply OL.alloc; rfl; rfl; exact CellsL.agg; (intro bk hbk; simp only [AllLe, and_true] at hbk)
        apply OL.storeB; rfl; rfl; exact CellsL.agg; rfl; rfl; rfl; apply Swap.z; apply Put.here; apply Over.cons; apply Over.cons; apply Over.cons; apply Over.nil
        apply OL.nil
        with_reducible apply At.next
        apply W.seq
        apply W.reg
        apply oas; rfl; rfl
        apply OL.nil
        with_reducible apply At.next
        apply W.seq
        apply W.seq
        apply W.reg
        apply ofa; rfl; rfl; rfl
        apply old; rfl; rfl; exact .head _; rfl; rfl
        apply omv; rfl; rfl
        apply OL.nil
        with_reducible apply At.next
        apply W.block
        refine W.loop (G := Nat × GP) (fun g => g.1 ≤ d.params) (fun g => d.params - g.1)
          (fun g => [(8, true, .slice (some ⟨gb, 0, none⟩) L.length cp), (19, true, .slice q2 L2.length c2), (20, true, .int .i64 ((bsum (dss l) i + g.1 : Nat) : Int)), (23, true, .slice g.2.q g.1 g.2.c), (103, true, .slice (some a) l.length cd), (104, true, .int .i64 (l.length : Int)), (105, true, .int .i64 (i : Int)), (110, true, .int .i64 (d.params : Int)), (111, true, .int .i64 (g.1 : Int))])
          (fun g => Cls (row w.heap.size g.2.O g.2.q g.1 g.2.c 3 1 (ins ((List.range g.1).map fun p => agree (f0 :: FO) (bsum (dss l) i + p))) :: row w.heap.size R2 q2 L2.length c2 29 1 (L2.map slv) :: pile w.heap.size O2 L2 :: row w.heap.size Rp (some ⟨gb, 0, none⟩) L.length cp 29 1 (L.map slv) :: pile w.heap.size Op L :: []) [w]) (0, gp0) (by simp) (by (repeat (first | exact Sub.nil | apply Sub.cons rfl | (refine Sub.cons_eq rfl (congrArg (Value.int .i64) (by first | omega | (simp only; omega))) ?_)))) (fun w' hw' => (hw'.thin (by (repeat (first | exact Thin.nil | exact Thin.same | apply Thin.keep | (refine Thin.blk (by assumption) ?_) | (refine Thin.blk (by simp only [AllLe, and_true]; omega) ?_))))).row_nil _ _ _) ?_
        rintro ⟨p, ⟨Oj, qj, cj⟩⟩ hp
        simp only at hp ⊢
        apply W.seq
        apply W.reg
        apply obn; rfl; rfl; rfl; apply Bin.lss
        apply OL.nil
        with_reducible apply At.next
        apply W.seq
        (refine W.cond rfl (fun hlt2 => ?_) (fun hlt2 => ?_)) <;> (try (simp only [Bool.and_eq_true, Bool.or_eq_true, Bool.not_eq_true', Bool.and_eq_false_iff, Bool.or_eq_false_iff, Bool.not_eq_false', decide_eq_true_eq, decide_eq_false_iff_not, Int.not_lt, Int.not_le] at hlt2)) <;> (try (exfalso; first | omega | exact hlt2 trivial | contradiction))
        · have hpk : bsum (dss l) i + p < k := by omega
          generalize hP : bsum (dss l) i + p = P at hpk
          obtain ⟨s0, hs0, hx0⟩ := map_get hL (j := 0) (y := f0) rfl
          refine W.fact (fun w2 hw2 => pile_some (hw2.item (.tail _ (.tail _ (.tail _ (.tail _ (.head _)))))) (List.mem_of_getElem? hs0) (by rw [hx0, ins_length, hfl f0 (.head _)]; omega)) ?_
          rintro ⟨a0, ha0⟩
          obtain ⟨q0, cap0, xs0⟩ := s0
          simp only at ha0 hx0
          subst ha0 hx0
          have hfl0 := hfl f0 (.head _)
          have hc0 : (L.map slv)[0 + 0 * 1]? = some (.slice (some a0) (ins f0).length cap0) := by simp [hs0, slv]
          rw [ins_length, hfl0] at hc0
          apply W.skip
          with_reducible apply At.next
          apply W.seq
          apply W.block
          apply W.seq
          apply W.reg
          apply omv; rfl; rfl
          apply OL.op; exact Guard.none; rfl; rfl; apply Pev.idxB; rfl; exact yes; rfl; exact yes; rfl; intro hcond; omega; rfl
          apply OL.op; exact Guard.none; rfl; rfl; apply Pev.load_row; rfl; exact yes; apply List.Mem.tail; exact .tail _ (.tail _ (.head _)); rfl; assumption
          apply omv; rfl; rfl
          apply OL.op; exact Guard.none; rfl; rfl; apply Pev.idx; rfl; exact yes; rfl; exact yes; rfl; rfl; intro hcond; omega
          (((first | (with_reducible apply OL.op) | (with_reducible apply QL.op)); ((first | exact Guard.none | exact Guard.yes rfl rfl | exact Guard.no rfl rfl | exact Guard.cyes rfl rfl | exact Guard.cno rfl rfl)); rfl; rfl); (apply Pev.load_pile (O := Op) (L := L) (s := ⟨some a0, cap0, ins f0⟩)); rfl; ((first | exact fun _ => rfl | exact fun h => h | (intro h; simp_all; done))); ((repeat (first | exact List.Mem.head _ | apply List.Mem.tail))); rfl; (exact List.mem_of_getElem? hs0); rfl; exact (by rw [Nat.mul_one]; exact ins_at (by omega)))
          apply oas; rfl; rfl
          apply OL.nil
          with_reducible apply At.next
          apply W.seq
          apply W.seq
          apply W.reg
          apply omv; rfl; rfl
          apply OL.op; exact Guard.none; rfl; rfl; apply Pev.len_slice; rfl; exact yes; rfl
          apply omv; rfl; rfl
          apply OL.nil
          with_reducible apply At.next
          refine W.joinc [(8, true, .slice (some ⟨gb, 0, none⟩) L.length cp), (19, true, .slice q2 L2.length c2), (20, true, .int .i64 (P : Int)), (23, true, .slice qj p cj), (24, true, .int .i64 (agree (f0 :: FO) P)), (103, true, .slice (some a) l.length cd), (104, true, .int .i64 (l.length : Int)), (105, true, .int .i64 (i : Int)), (110, true, .int .i64 (d.params : Int)), (111, true, .int .i64 (p : Int))] (Cls (row w.heap.size Oj qj p cj 3 1 (ins ((List.range p).map fun p => agree (f0 :: FO) (bsum (dss l) i + p))) :: row w.heap.size R2 q2 L2.length c2 29 1 (L2.map slv) :: pile w.heap.size O2 L2 :: row w.heap.size Rp (some ⟨gb, 0, none⟩) L.length cp 29 1 (L.map slv) :: pile w.heap.size Op L :: []) [w]) ?_ ?_
          · apply W.block
            refine W.loop (G := Nat) (fun j => j ≤ L.length ∧ ∀ (j' : Nat) (f : List Int), j' < j → (f0 :: FO)[j']? = some f → f.getD P 0 = f0.getD P 0) (fun j => L.length - j)
              (fun j => [(8, true, .slice (some ⟨gb, 0, none⟩) L.length cp), (19, true, .slice q2 L2.length c2), (20, true, .int .i64 (P : Int)), (23, true, .slice qj p cj), (24, true, .int .i64 (f0.getD P 0)), (103, true, .slice (some a) l.length cd), (104, true, .int .i64 (l.length : Int)), (105, true, .int .i64 (i : Int)), (110, true, .int .i64 (d.params : Int)), (111, true, .int .i64 (p : Int)), (119, true, .slice (some ⟨gb, 0, none⟩) L.length cp), (120, true, .int .i64 (L.length : Int)), (121, true, .int .i64 (j : Int))])
              (fun _ => Cls (row w.heap.size Oj qj p cj 3 1 (ins ((List.range p).map fun p => agree (f0 :: FO) (bsum (dss l) i + p))) :: row w.heap.size R2 q2 L2.length c2 29 1 (L2.map slv) :: pile w.heap.size O2 L2 :: row w.heap.size Rp (some ⟨gb, 0, none⟩) L.length cp 29 1 (L.map slv) :: pile w.heap.size Op L :: []) [w]) 0 ⟨by omega, fun j' f h => by omega⟩ (by (repeat (first | exact Sub.nil | apply Sub.cons rfl | (refine Sub.cons_eq rfl (congrArg (Value.int .i64) (by first | omega | (simp only; omega))) ?_)))) (fun w' hw' => hw') ?_
            rintro j ⟨hj, hag⟩
            apply W.seq
            apply W.reg
            apply obn; rfl; rfl; rfl; apply Bin.lss
            apply OL.nil
            with_reducible apply At.next
            apply W.seq
            (refine W.cond rfl (fun hlt3 => ?_) (fun hlt3 => ?_)) <;> (try (simp only [Bool.and_eq_true, Bool.or_eq_true, Bool.not_eq_true', Bool.and_eq_false_iff, Bool.or_eq_false_iff, Bool.not_eq_false', decide_eq_true_eq, decide_eq_false_iff_not, Int.not_lt, Int.not_le] at hlt3)) <;> (try (exfalso; first | omega | exact hlt3 trivial | contradiction))
            · have hjl : j < L.length := by omega
              obtain ⟨f, hf⟩ : ∃ f, (f0 :: FO)[j]? = some f := ⟨_, List.getElem?_eq_getElem (by have := congrArg List.length hL; simp only [List.length_map] at this; omega)⟩
              obtain ⟨s1, hs1', hx1⟩ := map_get hL hf
              have hflf := hfl f (List.mem_of_getElem? hf)
              refine W.fact (fun w2 hw2 => pile_some (hw2.item (.tail _ (.tail _ (.tail _ (.tail _ (.head _)))))) (List.mem_of_getElem? hs1') (by rw [hx1, ins_length, hflf]; omega)) ?_
              rintro ⟨a1, ha1⟩
              obtain ⟨q1, cap1, xs1⟩ := s1
              simp only at ha1 hx1
              subst ha1 hx1
              have hc1 : (L.map slv)[0 + j * 1]? = some (.slice (some a1) (ins f).length cap1) := by rw [show 0 + j * 1 = j by omega]; simp [hs1', slv]
              rw [ins_length, hflf] at hc1
              apply W.skip
              with_reducible apply At.next
              apply W.seq
              apply W.block
              apply W.seq
              apply W.reg
              apply OL.op; exact Guard.none; rfl; rfl; apply Pev.idxB; rfl; exact yes; rfl; exact yes; rfl; intro hcond; omega; rfl
              apply OL.op; exact Guard.none; rfl; rfl; apply Pev.load_row; rfl; exact yes; apply List.Mem.tail; exact .tail _ (.tail _ (.head _)); rfl; assumption
              apply oas; rfl; rfl
              apply OL.nil
              with_reducible apply At.next
              apply W.seq
              apply W.reg
              apply omv; rfl; rfl
              apply omv; rfl; rfl
              apply OL.op; exact Guard.none; rfl; rfl; apply Pev.idx; rfl; exact yes; rfl; exact yes; rfl; rfl; intro hcond; omega
              (((first | (with_reducible apply OL.op) | (with_reducible apply QL.op)); ((first | exact Guard.none | exact Guard.yes rfl rfl | exact Guard.no rfl rfl | exact Guard.cyes rfl rfl | exact Guard.cno rfl rfl)); rfl; rfl); (apply Pev.load_pile (O := Op) (L := L) (s := ⟨some a1, cap1, ins f⟩)); rfl; ((first | exact fun _ => rfl | exact fun h => h | (intro h; simp_all; done))); ((repeat (first | exact List.Mem.head _ | apply List.Mem.tail))); rfl; (exact List.mem_of_getElem? hs1'); rfl; exact (by rw [Nat.mul_one]; exact ins_at (by omega)))
              apply omv; rfl; rfl
              apply obn; rfl; rfl; rfl; apply Bin.neq
              apply OL.nil
              with_reducible apply At.next
              refine W.cond rfl (fun hb => ?_) (fun hb => ?_)
              · have hne : f.getD P 0 ≠ f0.getD P 0 := by simpa using hb
                rw [agree_no hf hne]
                apply W.seq
                apply W.reg
                apply oas; rfl; rfl
                apply OL.nil
                with_reducible apply At.next
                apply W.exit
                apply At.in_other; rfl
                with_reducible apply At.then_exit
                with_reducible apply At.then_exit
                with_reducible apply At.in_exit
                exact At.joined (by (repeat (first | exact Sub.nil | apply Sub.cons rfl | (refine Sub.cons_eq rfl (congrArg (Value.int .i64) (by first | omega | (simp only; omega))) ?_)))) (fun w' hw' => hw')
              · have heq : f.getD P 0 = f0.getD P 0 := by simpa using hb
                apply W.skip
                with_reducible apply At.in_normal
                with_reducible apply At.next
                apply W.reg
                apply obn; rfl; rfl; rfl; apply Bin.add_in; omega
                apply omv; rfl; rfl
                apply OL.nil
                exact At.again (j + 1) ⟨by omega, fun j' f' h1 h2 => by
                  by_cases e : j' = j
                  · subst e
                    rw [hf] at h2
                    rw [← Option.some.inj h2]
                    exact heq
                  · exact hag j' f' (by omega) h2⟩ (by omega) (by (repeat (first | exact Sub.nil | apply Sub.cons rfl | (refine Sub.cons_eq rfl (congrArg (Value.int .i64) (by first | omega | (simp only; omega))) ?_)))) (fun w' hw' => hw'.thin (by (repeat (first | exact Thin.nil | exact Thin.same | apply Thin.keep | (refine Thin.blk (by assumption) ?_) | (refine Thin.blk (by simp only [AllLe, and_true]; omega) ?_)))))
            · obtain rfl : j = L.length := by omega
              rw [agree_yes (fun j' f h2 => hag j' f (by have := (List.getElem?_eq_some_iff.1 h2).1; have h3 := congrArg List.length hL; simp only [List.length_map] at h3; omega) h2)]
              apply W.exit
              with_reducible apply At.then_exit
              with_reducible apply At.then_exit
              with_reducible apply At.in_exit
              exact At.joined (by (repeat (first | exact Sub.nil | apply Sub.cons rfl | (refine Sub.cons_eq rfl (congrArg (Value.int .i64) (by first | omega | (simp only; omega))) ?_)))) (fun w' hw' => hw')
          · apply W.seq
            apply W.reg
            apply omv; rfl; rfl
            apply omv; rfl; rfl
            apply OL.buildSlice; rfl; rfl; rfl; apply Elems.cons rfl; exact CellsL.one rfl; rfl; apply Elems.nil; apply App.cons; apply App.nil; rfl; rfl; (intro bk hbk; simp only [AllLe, and_true] at hbk)
            apply OL.append; rfl; rfl; rfl; rfl; apply Hole.s; apply Hole.z; exact .head _; apply Take.succ; apply Take.zero; rfl; rfl; exact ⟨_, .head _, Nat.le_refl _⟩; omega; intro O1 g1 cap1
            apply oas; rfl; rfl
            apply OL.nil
            with_reducible apply At.next
            apply W.reg
            apply omv; rfl; rfl
            apply obn; rfl; rfl; rfl; apply Bin.add_in; omega
            apply oas; rfl; rfl
            apply OL.nil
            with_reducible apply At.in_normal
            with_reducible apply At.next
            apply W.reg
            apply obn; rfl; rfl; rfl; apply Bin.add_in; omega
            apply omv; rfl; rfl
            apply OL.nil
            refine At.again (p + 1, ⟨O1, some ⟨g1, 0, none⟩, cap1⟩) (by simp only; omega) (by simp only; omega) (by (repeat (first | exact Sub.nil | apply Sub.cons rfl | (refine Sub.cons_eq rfl (congrArg (Value.int .i64) (by first | omega | (simp only; omega))) ?_)))) (fun w' hw' => ?_)
            have e1 : ins ((List.range (p + 1)).map fun p => agree (f0 :: FO) (bsum (dss l) i + p)) = ins ((List.range p).map fun p => agree (f0 :: FO) (bsum (dss l) i + p)) ++ [.int .i64 (agree (f0 :: FO) P)] := by
              rw [List.range_succ, List.map_append, ← ins_snoc]
              simp [hP]
            rw [e1]
            exact hw'.thin (by (repeat (first | exact Thin.nil | exact Thin.same | apply Thin.keep | (refine Thin.blk (by assumption) ?_) | (refine Thin.blk (by simp only [AllLe, and_true]; omega) ?_))))
        · obtain rfl : p = d.params := by omega
          have hdp : (l.map DD.params).getD i 0 = d.params := by simp [List.getD, hd]
          generalize hR : (List.range d.params).map (fun p => agree (f0 :: FO) (bsum (dss l) i + p)) = R
          have hRl : R.length = d.params := by rw [← hR]; simp
          have hL2l2 : L2.length < 4096 := by omega
          apply W.exit
          with_reducible apply At.then_exit
          with_reducible apply At.then_exit
          with_reducible apply At.in_exit
          with_reducible apply At.next
          apply W.reg
          apply omv; rfl; rfl
          apply omv; rfl; rfl
          apply OL.buildSlice; rfl; rfl; rfl; apply Elems.cons rfl; exact CellsL.one rfl; rfl; apply Elems.nil; apply App.cons; apply App.nil; rfl; rfl; (intro bk hbk; simp only [AllLe, and_true] at hbk)
          apply OL.append; rfl; rfl; rfl; rfl; apply Hole.s; apply Hole.s; apply Hole.z; exact .head _; apply Take.succ; apply Take.zero; rfl; rfl; exact ⟨_, .head _, Nat.le_refl _⟩; omega; intro O1 g1 cap1
          apply oas; rfl; rfl
          apply OL.nil
          with_reducible apply At.in_normal
          with_reducible apply At.next
          apply W.reg
          apply obn; rfl; rfl; rfl; apply Bin.add_in; omega
          apply omv; rfl; rfl
          apply OL.nil
          refine At.again (i + 1, ⟨L2 ++ [⟨qj, cj, ins R⟩], fun k => Oj k ∨ O2 k, O1, some ⟨g1, 0, none⟩, cap1⟩) ⟨by simp only; omega, ?_⟩ (by simp only; omega) (by simp only [List.length_append, List.length_cons, List.length_nil, hs1]; (repeat (first | exact Sub.nil | apply Sub.cons rfl | (refine Sub.cons_eq rfl (congrArg (Value.int .i64) (by first | omega | (simp only; omega))) ?_)))) (fun w' hw' => ?_)
          · simp only
            rw [List.map_append, hL2, List.range_succ, List.map_append, List.map_append]
            simp [hd, ← hR]
          · have h1 := hw'.thin (H' := row w.heap.size Oj qj d.params cj 3 1 (ins R) :: row w.heap.size O1 (some ⟨g1, 0, none⟩) (L2.length + 1) cap1 29 1 (L2.map slv ++ [.slice qj d.params cj]) :: pile w.heap.size O2 L2 :: row w.heap.size Rp (some ⟨gb, 0, none⟩) L.length cp 29 1 (L.map slv) :: pile w.heap.size Op L :: []) (by (repeat (first | exact Thin.nil | exact Thin.same | apply Thin.keep | (refine Thin.blk (by assumption) ?_) | (refine Thin.blk (by simp only [AllLe, and_true]; omega) ?_))))
            have h3 := (h1.perm (List.Perm.cons _ (List.Perm.swap _ _ _))).pile_push.flip
            have e1 : (L2 ++ [(⟨qj, cj, ins R⟩ : Sl)]).map slv = L2.map slv ++ [.slice qj d.params cj] := by simp [slv, ins_length, hRl]
            simp only [e1, List.length_append, List.length_cons, List.length_nil]
            exact h3
      · obtain rfl : i = l.length := by omega
        apply W.exit
        with_reducible apply At.then_exit
        with_reducible apply At.then_exit
        with_reducible apply At.in_exit
        with_reducible apply At.next
        apply W.seq
        apply W.reg
        apply omv; rfl; rfl
        apply oas; rfl; rfl
        apply oas; rfl; rfl
        apply OL.nil
        with_reducible apply At.next
        apply W.ret
        ((with_reducible apply At.fin2); rfl; rfl; rfl; intro w' hw')
        refine ⟨some (q2, c2, L2), rfl, ?_, by (exact hw'.toExt (by (repeat (first | exact List.Mem.head _ | apply List.Mem.tail))) (fun k hk => by (focus ((try simp only [add_block]); (repeat (first | exact NotOwned.nil | exact hno _ (by omega) | refine NotOwned.nothing ?_ | refine NotOwned.nds (hlow _ (by omega)) ?_ | refine NotOwned.mapS (by omega) ?_ | apply NotOwned.bif | refine NotOwned.blk (by omega) ?_ | refine NotOwned.row (by omega) ?_ | refine NotOwned.grid (by assumption) (by omega) ?_ | refine NotOwned.pile (by omega) ?_)); done)))), fun q c rows e => ?_, fun q c rows e s hs => ?_⟩
        · rw [hKR]
          simp only [ansS, Option.map_some]
          exact congrArg some hL2
        · cases e
          exact SlAt.of_row (hw'.item (.head _))
        · cases e
          exact pile_at (hw'.item (.tail _ (.head _))) hs
end Go.Proofs.YtaponemcbnnebaaDoor.ki
