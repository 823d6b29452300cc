/- The walk of kinds.Vars. Conditions: none. (Printed by kiv.py.) -/
import Derived.Test.YtaponemcbnnebaaDoorKiJ
import Derived.Test.YtaponemcbnnebaaDoorUv
import Derived.Test.YtaponemcbnnebaaDoorAny
namespace Go.Ki
open Go.Eng Go.RowKit
open Go.Proofs.YtaponemcbnnebaaDoor.ki (solN)
set_option linter.unusedVariables false
set_option linter.unusedSimpArgs false
/-- the solver's start: three kinds, and n open ones -/
def sigN : Nat → Sol
  | 0 => solN 3
  | n + 1 => ⟨(sigN n).up ++ [3 + n], (sigN n).kind ++ [-1]⟩
def vsN (n : Nat) : List Nat := (List.range n).map (3 + ·)
theorem vsN_length (n : Nat) : (vsN n).length = n := by simp [vsN]
theorem vsN_get {n i : Nat} (h : i < n) : (vsN n)[i]? = some (3 + i) := by simp [vsN, h]
theorem sigN_len (n : Nat) : (sigN n).up.length = 3 + n ∧ (sigN n).kind.length = 3 + n := by
  induction n with
  | zero => simp [sigN, solN]
  | succ n ih => simp only [sigN, List.length_append, List.length_cons, List.length_nil, ih.1, ih.2]; omega
theorem sigN_up {n i : Nat} (h : i < 3 + n) : (sigN n).up[i]? = some i := by
  induction n with
  | zero =>
    simp only [sigN, solN]
    simp only [List.getElem?_range (show i < 3 by omega)]
  | succ n ih =>
    rw [sigN]
    by_cases e : i < 3 + n
    · rw [List.getElem?_append_left (by rw [(sigN_len n).1]; exact e), ih e]
    · rw [List.getElem?_append_right (by rw [(sigN_len n).1]; omega), (sigN_len n).1]
      have : i = 3 + n := by omega
      subst this
      simp
theorem sigN_kind {n i : Nat} (h : i < 3 + n) : (sigN n).kind[i]? = some (if i < 3 then (i : Int) else -1) := by
  induction n with
  | zero => simp [sigN, solN, show i < 3 by omega]
  | succ n ih =>
    rw [sigN]
    by_cases e : i < 3 + n
    · rw [List.getElem?_append_left (by rw [(sigN_len n).2]; exact e), ih e]
    · rw [List.getElem?_append_right (by rw [(sigN_len n).2]; omega), (sigN_len n).2]
      have : i = 3 + n := by omega
      subst this
      rw [if_neg (by omega)]
      simp
theorem sigN_inv (n : Nat) : Inv (sigN n) := by
  refine ⟨by rw [(sigN_len n).1, (sigN_len n).2], fun i hi => ?_, by rw [(sigN_len n).1]; omega, fun c hc => ?_, fun i k hk => ?_⟩
  · rw [(sigN_len n).1] at hi
    exact ⟨0, i, .here (sigN_up hi)⟩
  · exact ⟨0, c, .here (sigN_up (by omega)), by rw [sigN_kind (by omega), if_pos hc]⟩
  · have hi := (List.getElem?_eq_some_iff.1 hk).1
    rw [(sigN_len n).2] at hi
    rw [sigN_kind hi] at hk
    have := Option.some.inj hk
    split at this <;> omega
/-- the answers: the kinds of the roots -/
def Roots (σ : Sol) (n : Nat) (xs : List Int) : Prop := ∀ (j : Nat) (v : Int), xs[j]? = some v → j < n ∧ ∃ d r k, Rt σ.up d (3 + j) r ∧ σ.kind[r]? = some k ∧ v = max 0 k
/-- what Vars answers -/
structure VarsR (kn : List ByteArray) (n : Nat) (t : Ty) (er : Int) (xs : List Int) : Prop where
  bad : (tyErr t false 1 0).2 ≠ 0 → er ≠ 0 ∧ xs = []
  ok : (tyErr t false 1 0).2 = 0 → ∃ σ, Wanted (Cond t 0) (pkF kn [] []) (vsN n) (sigN n) t 0 er σ ∧ (er ≠ 0 → xs = []) ∧ (er = 0 → xs.length = n ∧ Roots σ n xs)
end Go.Ki
namespace Go.Proofs.YtaponemcbnnebaaDoor.ki
open Go.RowKit Go.Eng Go.Ki
open Go.Proofs.YtaponemcbnnebaaDoor.uc (sizesAt)
set_option linter.unusedVariables false
set_option linter.unusedSimpArgs false
set_option maxRecDepth 100000
structure XV (S : List World) where
  b1 : Nat
  hb1 : AllLe S b1
  g1 : Nat
  c1 : Nat
  O1 : Nat → Prop
  old : Nat → Value
theorem vars_calls (q : Option Addr) (cap n : Nat) (kn : List ByteArray) (p : Pa) (w : World) (h1 : kn.length ≤ 1) (hcap : kn.length ≤ cap) (hn : n ≤ 4) (h : SlAt w w.heap.size q (cat kc kn)) (ht : TyC w w.heap.size p.t (tcc p)) (hg : 0 < w.heap.size) (hs : sizesAt w) :
    Calls Tryd.prog 9 [.slice q kn.length cap, .int .i64 (n : Int), .agg (tcc p).toArray].toArray w fun e w' => ∃ (er : Int) (a : Option Addr) (c : Nat) (xs : List Int), e = .returned (.tuple #[.slice a xs.length c, .int .i64 er]) ∧ VarsR kn n p.t er xs ∧ Ext w w' ∧ SlAt w' w'.heap.size a (ins xs) := by
  have hfac : ∀ (H : List Eng.Item) (w2 : World), (∀ k, k < w.heap.size → NotOwned H k) → Cls H [w] w2 → SlAt w2 w2.heap.size q (cat kc kn) ∧ TyC w2 w2.heap.size p.t (tcc p) ∧ 0 < w2.heap.size ∧ sizesAt w2 := fun H w2 hno hw2 =>
    have hbel := hw2.below (s := w) (.head _) (Nat.le_refl _) hno
    have hsz := (hw2.kp w (.head _)).size
    ⟨h.keep hbel hsz, TyC.keep hbel hsz ht, by omega, hs.keep hg hbel⟩
  generalize hB : w.heap.size = B at *
  have hbS : ∃ s ∈ [w], B ≤ s.heap.size := ⟨w, .head _, by omega⟩
  have hint := (TyC.ints ht)
  refine enter Tryd.func9 rfl Tryd.ntmps9 rfl (Cls.start w) ?_
  (simp only [argEnv, Nat.zero_add, Nat.reduceAdd])
  simp only [tcc]
  apply W.seq
  apply W.reg
  apply OL.box; rfl; rfl; exact CellsL.agg; (intro bk hbk; simp only [AllLe, and_true] at hbk)
  apply oas; rfl; rfl
  apply oas; rfl; rfl
  apply OL.nil
  with_reducible apply At.next
  apply W.seq
  apply W.reg
  apply omv; rfl; rfl
  revert bk
  intro b5 hb5
  (((first | (with_reducible apply OL.op) | (with_reducible apply QL.op)); ((first | exact Guard.none | exact Guard.yes rfl rfl | exact Guard.no rfl rfl | exact Guard.cyes rfl rfl | exact Guard.cno rfl rfl)); rfl; rfl); (exact Pev.call rfl (by (repeat (first | exact Args.nil | (apply Args.cons rfl; ((first | exact fun _ => rfl | exact fun h => h | (intro h; simp_all; done))))))) (fun _ w2 hw2 => (kcheck_calls q cap kn w2 h1 hcap (hfac _ w2 (fun k hk => by (focus ((try simp only [add_block]); (repeat (first | exact NotOwned.nil | exact hno _ (by omega) | refine NotOwned.nothing ?_ | refine NotOwned.nds (hlow _ (by omega)) ?_ | refine NotOwned.mapS (by omega) ?_ | apply NotOwned.bif | refine NotOwned.blk (by omega) ?_ | refine NotOwned.row (by omega) ?_ | refine NotOwned.grid (by assumption) (by omega) ?_ | refine NotOwned.pile (by omega) ?_)); done))) hw2).1).mono (fun e w3 h => ⟨h.1, hw2.ext h.2⟩))))
  apply oas; rfl; rfl
  apply OL.nil
  with_reducible apply At.next
  apply W.seq
  apply W.block
  apply W.seq
  apply W.reg
  apply omv; rfl; rfl
  apply obn; rfl; rfl; rfl; apply Bin.neq
  apply oas; rfl; rfl
  apply OL.nil
  with_reducible apply At.next
  refine W.cond rfl (fun hb => by simp at hb) (fun _ => ?_)
  apply W.seq
  apply W.reg
  apply omv; rfl; rfl
  apply obn; rfl; rfl; rfl; apply Bin.lss
  apply omv; rfl; rfl
  apply OL.op; exact Guard.no rfl rfl; rfl; rfl; apply Pev.move; rfl; exact yes
  apply OL.op; exact Guard.no rfl rfl; rfl; rfl; apply Pev.bin; rfl; exact yes; rfl; exact yes; intro hcond; apply Bin.gtr
  apply OL.op; exact Guard.none; rfl; rfl; apply Pev.pick_or; rfl; exact yes; rfl; exact yes
  apply oas; rfl; rfl
  apply OL.nil
  with_reducible apply At.next
  refine W.cond rfl (fun hb => by simp at hb; omega) (fun _ => ?_)
  apply W.skip
  with_reducible apply At.in_normal
  with_reducible apply At.next
  apply W.seq
  apply W.seq
  apply W.reg
  apply OL.op; exact Guard.none; rfl; rfl; apply Pev.load_blkA; rfl; exact yes; exact .head _; rfl; apply Take.succ; apply Take.succ; apply Take.succ; apply Take.succ; apply Take.zero
  (((first | (with_reducible apply OL.op) | (with_reducible apply QL.op)); ((first | exact Guard.none | exact Guard.yes rfl rfl | exact Guard.no rfl rfl | exact Guard.cyes rfl rfl | exact Guard.cno rfl rfl)); rfl; rfl); (exact Pev.call rfl (by (repeat (first | exact Args.nil | (apply Args.cons rfl; ((first | exact fun _ => rfl | exact fun h => h | (intro h; simp_all; done))))))) (fun _ w2 hw2 => (Go.Proofs.YtaponemcbnnebaaDoor.uv.Check_calls p.t (tcc p) w2 (hfac _ w2 (fun k hk => by (focus ((try simp only [add_block]); (repeat (first | exact NotOwned.nil | exact hno _ (by omega) | refine NotOwned.nothing ?_ | refine NotOwned.nds (hlow _ (by omega)) ?_ | refine NotOwned.mapS (by omega) ?_ | apply NotOwned.bif | refine NotOwned.blk (by omega) ?_ | refine NotOwned.row (by omega) ?_ | refine NotOwned.grid (by assumption) (by omega) ?_ | refine NotOwned.pile (by omega) ?_)); done))) hw2).2.1 (hfac _ w2 (fun k hk => by (focus ((try simp only [add_block]); (repeat (first | exact NotOwned.nil | exact hno _ (by omega) | refine NotOwned.nothing ?_ | refine NotOwned.nds (hlow _ (by omega)) ?_ | refine NotOwned.mapS (by omega) ?_ | apply NotOwned.bif | refine NotOwned.blk (by omega) ?_ | refine NotOwned.row (by omega) ?_ | refine NotOwned.grid (by assumption) (by omega) ?_ | refine NotOwned.pile (by omega) ?_)); done))) hw2).2.2.1 (hfac _ w2 (fun k hk => by (focus ((try simp only [add_block]); (repeat (first | exact NotOwned.nil | exact hno _ (by omega) | refine NotOwned.nothing ?_ | refine NotOwned.nds (hlow _ (by omega)) ?_ | refine NotOwned.mapS (by omega) ?_ | apply NotOwned.bif | refine NotOwned.blk (by omega) ?_ | refine NotOwned.row (by omega) ?_ | refine NotOwned.grid (by assumption) (by omega) ?_ | refine NotOwned.pile (by omega) ?_)); done))) hw2).2.2.2).mono (fun e w3 h => ⟨h.1, hw2.ext h.2⟩))))
  apply oas; rfl; rfl
  apply OL.nil
  with_reducible apply At.next
  apply W.seq
  apply W.reg
  apply omv; rfl; rfl
  apply obn; rfl; rfl; rfl; apply Bin.neq
  apply OL.nil
  with_reducible apply At.next
  (refine W.cond rfl (fun he => ?_) (fun he => ?_)) <;> (try (simp only [Bool.and_eq_true, Bool.or_eq_true, Bool.not_eq_true', Bool.and_eq_false_iff, Bool.or_eq_false_iff, Bool.not_eq_false', decide_eq_true_eq, decide_eq_false_iff_not, Int.not_lt, Int.not_le] at he)) <;> (try (exfalso; first | omega | exact he trivial | contradiction))
  · apply W.seq
    apply W.reg
    apply omv; rfl; rfl
    apply oas; rfl; rfl
    apply oas; rfl; rfl
    apply OL.nil
    with_reducible apply At.next
    apply W.ret
    with_reducible apply At.then_ret
    ((with_reducible apply At.fin2); rfl; rfl; rfl; intro w' hw')
    exact ⟨_, none, 0, [], rfl, ⟨fun _ => ⟨he, rfl⟩, fun h0 => absurd h0 he⟩, by (exact hw'.toExt (by (repeat (first | exact List.Mem.head _ | apply List.Mem.tail))) (fun k hk => by (focus ((try simp only [add_block]); (repeat (first | exact NotOwned.nil | exact hno _ (by omega) | refine NotOwned.nothing ?_ | refine NotOwned.nds (hlow _ (by omega)) ?_ | refine NotOwned.mapS (by omega) ?_ | apply NotOwned.bif | refine NotOwned.blk (by omega) ?_ | refine NotOwned.row (by omega) ?_ | refine NotOwned.grid (by assumption) (by omega) ?_ | refine NotOwned.pile (by omega) ?_)); done)))), SlAt.nil⟩
  apply W.skip
  with_reducible apply At.next
  apply W.seq
  apply W.reg
  apply omv; rfl; rfl
  refine OL.callE (α := Loc × Nat) (fun x => .pointer (some ⟨x.2, 0, none⟩)) (fun x => At3 x.1 B x.2 (.slice q kn.length cap) (.slice none 0 0) (.slice none 0 0) ∧ B ≤ x.2) (fun x => Cls (x.1.items 3 (solN 3) [blk b5 24 [.int .i64 p.t.kind, .string p.t.name, .int .i64 p.t.var, .slice p.q p.t.args.length p.cap]]) [w]) rfl rfl (by (repeat (first | exact Args.nil | (apply Args.cons rfl; ((first | exact fun _ => rfl | exact fun h => h | (intro h; simp_all; done))))))) (fun w2 hw2 => (started_calls B q none kn.length cap 0 0 _ [w] w2 hbS hw2).mono fun e w3 ⟨L, bs, h1, h2, h3, h4⟩ => ⟨(L, bs), h1, ⟨h2, h3⟩, h4⟩) ?_
  rintro ⟨L, bs⟩ ⟨hL, hbs⟩
  simp only at hL hbs ⊢
  apply oas; rfl; rfl
  apply OL.nil
  with_reducible apply At.next
  apply W.seq
  apply W.reg
  apply oas; rfl; rfl
  apply OL.nil
  with_reducible apply At.next
  apply W.seq
  apply W.seq
  apply W.reg
  apply omv; rfl; rfl
  apply omv; rfl; rfl
  apply OL.nil
  with_reducible apply At.next
  apply W.block
  refine W.loop (G := Nat × Loc × GP) (fun g => g.1 ≤ n ∧ At3 g.2.1 B bs (.slice q kn.length cap) (.slice none 0 0) (.slice none 0 0)) (fun g => n - g.1)
    (fun g => [(5, true, .pointer (some ⟨b5, 0, none⟩)), (10, true, .pointer (some ⟨bs, 0, none⟩)), (11, true, .slice g.2.2.q g.1 g.2.2.c), (36, true, .int .i64 (n : Int)), (37, true, .int .i64 (g.1 : Int))])
    (fun g => Cls (g.2.1.items (3 + g.1) (sigN g.1) (row B g.2.2.O g.2.2.q g.1 g.2.2.c 3 1 (nts (vsN g.1)) :: blk b5 24 [.int .i64 p.t.kind, .string p.t.name, .int .i64 p.t.var, .slice p.q p.t.args.length p.cap] :: [])) [w]) (0, L, gp0) ⟨by simp, hL⟩ (by (repeat (first | exact Sub.nil | apply Sub.cons rfl | (refine Sub.cons_eq rfl (congrArg (Value.int .i64) (by first | omega | (simp only; omega))) ?_)))) (fun w' hw' => ?_) ?_
  · exact Cls.mid (A := [_]) (I := [_, _, _]) (hw'.row_nil B _ 1)
  rintro ⟨j, L, ⟨Ov, qv, cv⟩⟩ ⟨hj, hL⟩
  simp only at hj hL ⊢
  apply W.seq
  apply W.reg
  apply obn; rfl; rfl; rfl; apply Bin.lss
  apply OL.nil
  with_reducible apply At.next
  apply W.seq
  (refine W.cond rfl (fun hlt => ?_) (fun hlt => ?_)) <;> (try (simp only [Bool.and_eq_true, Bool.or_eq_true, Bool.not_eq_true', Bool.and_eq_false_iff, Bool.or_eq_false_iff, Bool.not_eq_false', decide_eq_true_eq, decide_eq_false_iff_not, Int.not_lt, Int.not_le] at hlt)) <;> (try (exfalso; first | omega | exact hlt trivial | contradiction))
  · have hjn := sigN_len j
    apply W.skip
    with_reducible apply At.next
    apply W.seq
    apply W.block
    apply W.reg
    apply omv; rfl; rfl
    apply omv; rfl; rfl
    refine OL.callE (α := Loc) (fun _ => .int .i64 ((3 + j : Nat) : Int)) (fun L' => At3 L' B bs (.slice q kn.length cap) (.slice none 0 0) (.slice none 0 0)) (fun L' => Cls (L'.items (3 + j + 1) (sigN (j + 1)) (row B Ov qv j cv 3 1 (nts (vsN j)) :: blk b5 24 [.int .i64 p.t.kind, .string p.t.name, .int .i64 p.t.var, .slice p.q p.t.args.length p.cap] :: [])) [w]) rfl rfl (by (repeat (first | exact Args.nil | (apply Args.cons rfl; ((first | exact fun _ => rfl | exact fun h => h | (intro h; simp_all; done))))))) (fun w2 hw2 => ?_) ?_
    · have hs := slot_calls L (3 + j) (sigN j) (-1) _ [w] w2 hjn.1 hjn.2 (by omega) (by rw [hL.b]; exact hbS) (by rw [hL.b, hL.s]; exact hbs) hw2
      rw [hL.s] at hs
      exact hs.mono fun e w3 ⟨L', he, ⟨h1, h2, h3, h4, h5⟩, hcl⟩ => ⟨L', he, ⟨h1.trans hL.b, h2, h3.trans hL.h1, h4.trans hL.h2, h5.trans hL.h3⟩, hcl⟩
    intro L' hL'
    apply OL.buildSlice; rfl; rfl; rfl; apply Elems.cons rfl; exact CellsL.one rfl; rfl; apply Elems.nil; apply App.cons; apply App.nil; rfl; rfl; (intro bk hbk; simp only [AllLe, and_true] at hbk)
    apply OL.append; rfl; rfl; rfl; rfl; apply Hole.s; apply Hole.s; apply Hole.s; apply Hole.s; apply Hole.z; exact .head _; apply Take.succ; apply Take.zero; rfl; rfl; assumption; omega; intro O1 g1 cap1
    apply oas; rfl; rfl
    apply OL.nil
    with_reducible apply At.in_normal
    with_reducible apply At.next
    apply W.reg
    apply obn; rfl; rfl; rfl; apply Bin.add_in; omega
    apply omv; rfl; rfl
    apply OL.nil
    refine At.again (j + 1, L', ⟨O1, some ⟨g1, 0, none⟩, cap1⟩) ⟨by simp only; omega, hL'⟩ (by simp only; omega) (by (repeat (first | exact Sub.nil | apply Sub.cons rfl | (refine Sub.cons_eq rfl (congrArg (Value.int .i64) (by first | omega | (simp only; omega))) ?_)))) (fun w' hw' => ?_)
    have e1 : nts (vsN (j + 1)) = nts (vsN j) ++ [.int .i64 ((3 + j : Nat) : Int)] := by simp [vsN, nts, List.range_succ]
    rw [e1]
    exact hw'.thin (by (repeat (first | exact Thin.nil | exact Thin.same | apply Thin.keep | (refine Thin.blk (by assumption) ?_) | (refine Thin.blk (by simp only [AllLe, and_true]; omega) ?_))))
  obtain rfl : n = j := by omega
  clear hlt hj
  have hsl := sigN_len n
  apply W.exit
  with_reducible apply At.then_exit
  with_reducible apply At.then_exit
  with_reducible apply At.in_exit
  with_reducible apply At.next
  apply W.seq
  apply W.seq
  apply W.reg
  apply omv; rfl; rfl
  apply OL.op; exact Guard.none; rfl; rfl; apply Pev.load_blkA; rfl; exact yes; apply List.Mem.tail; apply List.Mem.tail; exact .tail _ (.tail _ (.head _)); rfl; apply Take.succ; apply Take.succ; apply Take.succ; apply Take.succ; apply Take.zero
  apply omv; rfl; rfl
  have he0 : (tyErr p.t false 1 0).2 = 0 := he
  refine OL.callE (α := Int × Sol) (fun x => .int .i64 x.1) (fun g => Wanted (Cond p.t 0) (pkF kn [] []) (vsN n) (sigN n) p.t 0 g.1 g.2) (fun g => Cls (L.items (3 + n) g.2 (row B (fun _ => False) none 0 0 3 1 (nts []) :: row B Ov qv n cv 3 1 (nts (vsN n)) :: blk b5 24 [.int .i64 p.t.kind, .string p.t.name, .int .i64 p.t.var, .slice p.q p.t.args.length p.cap] :: [])) [w]) rfl rfl (by (repeat (first | exact Args.nil | (apply Args.cons rfl; ((first | exact fun _ => rfl | exact fun h => h | (intro h; simp_all; done))))))) (fun w2 hw2 => ?_) ?_
  · have hR : Rd B w kn [] [] gp0 L := ⟨by omega, hL.b, by rw [hL.s]; exact hbs, ⟨by omega, q, cap, hL.h1, h⟩, ⟨by simp, none, 0, hL.h2, SlAt.nil⟩, ⟨rfl, hL.h3⟩, by simp, by simp⟩
    have hww := want_calls B (3 + n) w kn [] [] (vsN n) gp0 ⟨Ov, qv, cv⟩ L hR (by rw [vsN_length]; omega) (fun x hx => by simp only [vsN, List.mem_map, List.mem_range] at hx; omega) (fun nm l hl => by
      simp only [psF] at hl
      split at hl
      · cases hl; simp
      · cases hl) _ p 0 (sigN n) [blk b5 24 [.int .i64 p.t.kind, .string p.t.name, .int .i64 p.t.var, .slice p.q p.t.args.length p.cap]] [] w2 (Nat.le_refl _) ht (wg_of _ _ _ _ he0) (by omega) (sigN_inv n) hsl.1 (fun k hk => by (focus ((try simp only [add_block]); (repeat (first | exact NotOwned.nil | exact hno _ (by omega) | refine NotOwned.nothing ?_ | refine NotOwned.nds (hlow _ (by omega)) ?_ | refine NotOwned.mapS (by omega) ?_ | apply NotOwned.bif | refine NotOwned.blk (by omega) ?_ | refine NotOwned.row (by omega) ?_ | refine NotOwned.grid (by assumption) (by omega) ?_ | refine NotOwned.pile (by omega) ?_)); done)))
    simp only [ri, vsN_length, hL.s] at hww
    exact (hww (Cls.mid (A := [_]) (I := [_, _, _]) (hw2.row_nil B _ 1))).mono fun e w3 ⟨er, σ', h1, h2, h3⟩ => ⟨(er, σ'), h1, h2, h3⟩
  rintro ⟨er, σ⟩ hW
  obtain ⟨B', bs', k1, k2, k3, P1, q1, c1, P2, q2, c2⟩ := L
  have hLb := hL.b
  have hLs := hL.s
  simp only at hLb hLs
  subst hLb hLs
  simp only [Loc.items, Loc.cells] at hW ⊢
  apply oas; rfl; rfl
  apply OL.nil
  with_reducible apply At.next
  apply W.seq
  apply W.reg
  apply omv; rfl; rfl
  apply obn; rfl; rfl; rfl; apply Bin.neq
  apply OL.nil
  with_reducible apply At.next
  (refine W.cond rfl (fun hee => ?_) (fun hee => ?_)) <;> (try (simp only [Bool.and_eq_true, Bool.or_eq_true, Bool.not_eq_true', Bool.and_eq_false_iff, Bool.or_eq_false_iff, Bool.not_eq_false', decide_eq_true_eq, decide_eq_false_iff_not, Int.not_lt, Int.not_le] at hee)) <;> (try (exfalso; first | omega | exact hee trivial | contradiction))
  · apply W.seq
    apply W.reg
    apply omv; rfl; rfl
    apply oas; rfl; rfl
    apply oas; rfl; rfl
    apply OL.nil
    with_reducible apply At.next
    apply W.ret
    with_reducible apply At.then_ret
    ((with_reducible apply At.fin2); rfl; rfl; rfl; intro w' hw')
    exact ⟨er, none, 0, [], rfl, ⟨fun h0 => absurd he0 h0, fun _ => ⟨σ, hW, fun _ => rfl, fun h0 => absurd h0 hee⟩⟩, by (exact hw'.toExt (by (repeat (first | exact List.Mem.head _ | apply List.Mem.tail))) (fun k hk => by (focus ((try simp only [add_block]); (repeat (first | exact NotOwned.nil | exact hno _ (by omega) | refine NotOwned.nothing ?_ | refine NotOwned.nds (hlow _ (by omega)) ?_ | refine NotOwned.mapS (by omega) ?_ | apply NotOwned.bif | refine NotOwned.blk (by omega) ?_ | refine NotOwned.row (by omega) ?_ | refine NotOwned.grid (by assumption) (by omega) ?_ | refine NotOwned.pile (by omega) ?_)); done)))), SlAt.nil⟩
  subst hee
  have hinv := hW.inv
  have hlen : σ.up.length = 3 + n := hW.len.trans hsl.1
  refine W.fact (fun w2 hw2 => row_some (hw2.item (.tail _ (.head _))) (by omega)) ?_
  rintro ⟨b2, rfl⟩
  apply W.skip
  with_reducible apply At.next
  apply W.seq
  apply W.reg
  apply oas; rfl; rfl
  apply OL.nil
  with_reducible apply At.next
  apply W.seq
  apply W.seq
  apply W.reg
  apply omv; rfl; rfl
  apply OL.op; exact Guard.none; rfl; rfl; apply Pev.len_slice; rfl; exact yes; rfl
  apply omv; rfl; rfl
  apply OL.nil
  with_reducible apply At.next
  apply W.block
  refine W.loop (G := Nat × GP × List Int) (fun g => g.1 ≤ n ∧ g.2.2.length = g.1 ∧ Roots σ n g.2.2) (fun g => n - g.1)
    (fun g => [(10, true, .pointer (some ⟨bs', 0, none⟩)), (13, true, .slice g.2.1.q g.1 g.2.1.c), (52, true, .slice qv n cv), (53, true, .int .i64 (n : Int)), (54, true, .int .i64 (g.1 : Int))])
    (fun g => Cls (row B' P1 q1 (3 + n) c1 3 1 (nts σ.up) :: row B' P2 (some ⟨b2, 0, none⟩) (3 + n) c2 3 1 (ins σ.kind) :: blk bs' 64 [k1, k2, k3, .slice q1 (3 + n) c1, .slice (some ⟨b2, 0, none⟩) (3 + n) c2] :: row B' (fun _ => False) none 0 0 3 1 (nts []) :: row B' Ov qv n cv 3 1 (nts (vsN n)) :: blk b5 24 [.int .i64 p.t.kind, .string p.t.name, .int .i64 p.t.var, .slice p.q p.t.args.length p.cap] :: row B' g.2.1.O g.2.1.q g.1 g.2.1.c 3 1 (ins g.2.2) :: []) [w]) (0, gp0, []) ⟨by simp, rfl, fun j v h => by simp at h⟩ (by (repeat (first | exact Sub.nil | apply Sub.cons rfl | (refine Sub.cons_eq rfl (congrArg (Value.int .i64) (by first | omega | (simp only; omega))) ?_)))) (fun w' hw' => Cls.mid (A := [_]) (I := [_, _, _, _, _, _]) (H := []) (hw'.row_nil B' _ 1)) ?_
  rintro ⟨i, ⟨Oo, qo, co⟩, xs⟩ ⟨hi, hxl, hRo⟩
  simp only at hi hxl hRo ⊢
  apply W.seq
  apply W.reg
  apply obn; rfl; rfl; rfl; apply Bin.lss
  apply OL.nil
  with_reducible apply At.next
  apply W.seq
  (refine W.cond rfl (fun hlt => ?_) (fun hlt => ?_)) <;> (try (simp only [Bool.and_eq_true, Bool.or_eq_true, Bool.not_eq_true', Bool.and_eq_false_iff, Bool.or_eq_false_iff, Bool.not_eq_false', decide_eq_true_eq, decide_eq_false_iff_not, Int.not_lt, Int.not_le] at hlt)) <;> (try (exfalso; first | omega | exact hlt trivial | contradiction))
  · have hil : i < n := by omega
    refine W.fact (fun w2 hw2 => row_some (hw2.item (.tail _ (.tail _ (.tail _ (.tail _ (.head _)))))) (show 0 < n by omega)) ?_
    rintro ⟨vb, rfl⟩
    have hcv := nts_get (vsN_get hil)
    obtain ⟨d, r, hr⟩ := hinv.rt (3 + i) (by omega)
    obtain ⟨kv, hkv⟩ := hinv.kind hr
    have hck := ins_get hkv
    have hrl := hr.lt.2
    have hroot := fun (H : List Eng.Item) (w2 : World) (hw2 : Cls (row B' P1 q1 (3 + n) c1 3 1 (nts σ.up) :: row B' P2 (some ⟨b2, 0, none⟩) (3 + n) c2 3 1 (ins σ.kind) :: blk bs' 64 [k1, k2, k3, .slice q1 (3 + n) c1, .slice (some ⟨b2, 0, none⟩) (3 + n) c2] :: H) [w] w2) => root_calls ⟨B', bs', k1, k2, k3, P1, q1, c1, P2, some ⟨b2, 0, none⟩, c2⟩ (3 + n) σ H [w] w2 hlen hw2 d (3 + i) r hr
    apply W.skip
    with_reducible apply At.next
    apply W.seq
    apply W.block
    apply W.seq
    apply W.reg
    apply OL.op; exact Guard.none; rfl; rfl; apply Pev.idxB; rfl; exact yes; rfl; exact yes; rfl; intro hcond; omega; rfl
    apply OL.op; exact Guard.none; rfl; rfl; apply Pev.load_row; rfl; exact yes; apply List.Mem.tail; apply List.Mem.tail; exact .tail _ (.tail _ (.head _)); rfl; assumption
    apply oas; rfl; rfl
    apply OL.nil
    with_reducible apply At.next
    refine W.regany (X := XV [w]) (fun x e => [(13, true, bif e 13 then .slice (some ⟨x.g1, 0, none⟩) (i + 1) x.c1 else .slice qo i co), (70, true, bif e 12 then .slice (some ⟨x.g1, 0, none⟩) (i + 1) x.c1 else x.old 70), (69, true, bif e 11 then .slice (some ⟨x.b1, 0, none⟩) 1 1 else x.old 69), (68, true, bif e 10 then .int .i64 (if 0 < kv then kv else 0) else x.old 68), (67, true, bif e 9 then .int .i64 kv else x.old 67), (66, true, bif e 8 then .pointer (some ⟨b2, 0 + (r : Int).toNat * 1, none⟩) else x.old 66), (65, true, bif e 7 then .int .i64 (r : Int) else x.old 65), (64, true, bif e 6 then .int .i64 ((3 + i : Nat) : Int) else x.old 64), (63, true, bif e 5 then .pointer (some ⟨bs', 0, none⟩) else x.old 63), (62, true, bif e 4 then .slice (some ⟨b2, 0, none⟩) (3 + n) c2 else x.old 62), (61, true, bif e 3 then .pointer (some ⟨bs', 0 + 4, none⟩) else x.old 61), (60, true, bif e 2 then .pointer (some ⟨bs', 0, none⟩) else x.old 60), (59, true, bif e 1 then .pointer (some ⟨bs', 0, none⟩) else x.old 59), (58, true, bif e 0 then .slice qo i co else x.old 58), (10, true, .pointer (some ⟨bs', 0, none⟩)), (52, true, .slice (some ⟨vb, 0, none⟩) n cv), (53, true, .int .i64 (n : Int)), (54, true, .int .i64 (i : Int)), (15, true, .int .i64 ((3 + i : Nat) : Int))])
      (fun x e => (row B' P1 q1 (3 + n) c1 3 1 (nts σ.up)) :: (row B' P2 (some ⟨b2, 0, none⟩) (3 + n) c2 3 1 (ins σ.kind)) :: (blk bs' 64 [k1, k2, k3, .slice q1 (3 + n) c1, .slice (some ⟨b2, 0, none⟩) (3 + n) c2]) :: (row B' (fun _ => False) none 0 0 3 1 (nts [])) :: (row B' Ov (some ⟨vb, 0, none⟩) n cv 3 1 (nts (vsN n))) :: (blk b5 24 [.int .i64 p.t.kind, .string p.t.name, .int .i64 p.t.var, .slice p.q p.t.args.length p.cap]) :: (bif e 12 then row B' x.O1 (some ⟨x.g1, 0, none⟩) (i + 1) x.c1 3 1 (ins xs ++ [.int .i64 (if 0 < kv then kv else 0)]) else row B' Oo qo i co 3 1 (ins xs)) :: (bif e 11 then blk x.b1 3 [.int .i64 (if 0 < kv then kv else 0)] else nothing) :: [])
      (fun old => ⟨w.heap.size, ⟨Nat.le_refl _, trivial⟩, 0, 0, fun _ => False, old⟩) (by kernel_rfl) (by kernel_rfl) (fun w hw => hw.drew) (fun old => by repeat (first | exact SubO.nil | apply SubO.cons rfl | refine SubO.old rfl ?_)) (fun old w' hw' => hw'.add_nothing) ?_ ?_
    · intro x e i o ho hei hd hcl
      have hi : i < 14 := (List.getElem?_eq_some_iff.1 ho).1
      obtain rfl | rfl | rfl | rfl | rfl | rfl | rfl | rfl | rfl | rfl | rfl | rfl | rfl | rfl : i = 0 ∨ i = 1 ∨ i = 2 ∨ i = 3 ∨ i = 4 ∨ i = 5 ∨ i = 6 ∨ i = 7 ∨ i = 8 ∨ i = 9 ∨ i = 10 ∨ i = 11 ∨ i = 12 ∨ i = 13 := by omega
      · cases ho
        have h13 : e 13 = false := hcl.not (i := 0) (j := 13) rfl hei (by kernel_rfl)
        have v0 : Eng.upd e 0 0 = true := upd_eq
        have v13 : Eng.upd e 0 13 = false := h13
        simp only [hei, h13, cond_true, cond_false]
        apply omv; rfl; rfl
        apply OL.nil
        exact At.beside x (by repeat (first | exact Sub.nil | apply Sub.cons rfl | refine Sub.cons_eq rfl (by simp only [v0, v13, cond_true, cond_false]) ?_)) (fun w' hw' => by first | exact hw' | (simp only [v0, v13, cond_true, cond_false]; exact hw'))
      · cases ho
        have v1 : Eng.upd e 1 1 = true := upd_eq
        simp only [hei, cond_true, cond_false]
        apply omv; rfl; rfl
        apply OL.nil
        exact At.beside x (by repeat (first | exact Sub.nil | apply Sub.cons rfl | refine Sub.cons_eq rfl (by simp only [v1, cond_true, cond_false]) ?_)) (fun w' hw' => by first | exact hw' | (simp only [v1, cond_true, cond_false]; exact hw'))
      · cases ho
        have h1 : e 1 = true := hd ⟨1, .data⟩ (by simp) rfl
        have v2 : Eng.upd e 2 2 = true := upd_eq
        have v1 : Eng.upd e 2 1 = true := upd_mono h1
        simp only [hei, h1, cond_true, cond_false]
        apply OL.op; exact Guard.none; rfl; rfl; apply Pev.nil_ptr; rfl; exact yes
        apply OL.nil
        exact At.beside x (by repeat (first | exact Sub.nil | apply Sub.cons rfl | refine Sub.cons_eq rfl (by simp only [v2, v1, cond_true, cond_false]) ?_)) (fun w' hw' => by first | exact hw' | (simp only [v2, v1, cond_true, cond_false]; exact hw'))
      · cases ho
        have h2 : e 2 = true := hd ⟨2, .data⟩ (by simp) rfl
        have v3 : Eng.upd e 3 3 = true := upd_eq
        have v2 : Eng.upd e 3 2 = true := upd_mono h2
        simp only [hei, h2, cond_true, cond_false]
        apply ofa; rfl; rfl; rfl
        apply OL.nil
        exact At.beside x (by repeat (first | exact Sub.nil | apply Sub.cons rfl | refine Sub.cons_eq rfl (by simp only [v3, v2, cond_true, cond_false]) ?_)) (fun w' hw' => by first | exact hw' | (simp only [v3, v2, cond_true, cond_false]; exact hw'))
      · cases ho
        have h3 : e 3 = true := hd ⟨3, .data⟩ (by simp) rfl
        have v4 : Eng.upd e 4 4 = true := upd_eq
        have v3 : Eng.upd e 4 3 = true := upd_mono h3
        simp only [hei, h3, cond_true, cond_false]
        apply old; rfl; rfl; exact .tail _ (.tail _ (.head _)); rfl; rfl
        apply OL.nil
        exact At.beside x (by repeat (first | exact Sub.nil | apply Sub.cons rfl | refine Sub.cons_eq rfl (by simp only [v4, v3, cond_true, cond_false]) ?_)) (fun w' hw' => by first | exact hw' | (simp only [v4, v3, cond_true, cond_false]; exact hw'))
      · cases ho
        have v5 : Eng.upd e 5 5 = true := upd_eq
        simp only [hei, cond_true, cond_false]
        apply omv; rfl; rfl
        apply OL.nil
        exact At.beside x (by repeat (first | exact Sub.nil | apply Sub.cons rfl | refine Sub.cons_eq rfl (by simp only [v5, cond_true, cond_false]) ?_)) (fun w' hw' => by first | exact hw' | (simp only [v5, cond_true, cond_false]; exact hw'))
      · cases ho
        have v6 : Eng.upd e 6 6 = true := upd_eq
        simp only [hei, cond_true, cond_false]
        apply omv; rfl; rfl
        apply OL.nil
        exact At.beside x (by repeat (first | exact Sub.nil | apply Sub.cons rfl | refine Sub.cons_eq rfl (by simp only [v6, cond_true, cond_false]) ?_)) (fun w' hw' => by first | exact hw' | (simp only [v6, cond_true, cond_false]; exact hw'))
      · cases ho
        have h5 : e 5 = true := hd ⟨5, .data⟩ (by simp) rfl
        have h6 : e 6 = true := hd ⟨6, .data⟩ (by simp) rfl
        have v7 : Eng.upd e 7 7 = true := upd_eq
        have v5 : Eng.upd e 7 5 = true := upd_mono h5
        have v6 : Eng.upd e 7 6 = true := upd_mono h6
        simp only [hei, h5, h6, cond_true, cond_false]
        skip
        (((first | (with_reducible apply OL.op) | (with_reducible apply QL.op)); ((first | exact Guard.none | exact Guard.yes rfl rfl | exact Guard.no rfl rfl | exact Guard.cyes rfl rfl | exact Guard.cno rfl rfl)); rfl; rfl); (exact Pev.call rfl (by (repeat (first | exact Args.nil | (apply Args.cons rfl; ((first | exact fun _ => rfl | exact fun h => h | (intro h; simp_all; done))))))) (fun _ w2 hw2 => hroot _ w2 hw2)))
        apply OL.nil
        exact At.beside x (by repeat (first | exact Sub.nil | apply Sub.cons rfl | refine Sub.cons_eq rfl (by simp only [v7, v5, v6, cond_true, cond_false]) ?_)) (fun w' hw' => by first | exact hw' | (simp only [v7, v5, v6, cond_true, cond_false]; exact hw'))
      · cases ho
        have h4 : e 4 = true := hd ⟨4, .data⟩ (by simp) rfl
        have h7 : e 7 = true := hd ⟨7, .data⟩ (by simp) rfl
        have v8 : Eng.upd e 8 8 = true := upd_eq
        have v4 : Eng.upd e 8 4 = true := upd_mono h4
        have v7 : Eng.upd e 8 7 = true := upd_mono h7
        simp only [hei, h4, h7, cond_true, cond_false]
        apply OL.op; exact Guard.none; rfl; rfl; apply Pev.idxB; rfl; exact yes; rfl; exact yes; rfl; intro hcond; omega; rfl
        apply OL.nil
        exact At.beside x (by repeat (first | exact Sub.nil | apply Sub.cons rfl | refine Sub.cons_eq rfl (by simp only [v8, v4, v7, cond_true, cond_false]) ?_)) (fun w' hw' => by first | exact hw' | (simp only [v8, v4, v7, cond_true, cond_false]; exact hw'))
      · cases ho
        have h8 : e 8 = true := hd ⟨8, .data⟩ (by simp) rfl
        have v9 : Eng.upd e 9 9 = true := upd_eq
        have v8 : Eng.upd e 9 8 = true := upd_mono h8
        simp only [hei, h8, cond_true, cond_false]
        apply OL.op; exact Guard.none; rfl; rfl; apply Pev.load_row; rfl; exact yes; exact .tail _ (.head _); rfl; assumption
        apply OL.nil
        exact At.beside x (by repeat (first | exact Sub.nil | apply Sub.cons rfl | refine Sub.cons_eq rfl (by simp only [v9, v8, cond_true, cond_false]) ?_)) (fun w' hw' => by first | exact hw' | (simp only [v9, v8, cond_true, cond_false]; exact hw'))
      · cases ho
        have h9 : e 9 = true := hd ⟨9, .data⟩ (by simp) rfl
        have v10 : Eng.upd e 10 10 = true := upd_eq
        have v9 : Eng.upd e 10 9 = true := upd_mono h9
        simp only [hei, h9, cond_true, cond_false]
        apply OL.op; exact Guard.none; rfl; rfl; apply Pev.max2; rfl; exact yes; rfl; exact yes
        apply OL.nil
        exact At.beside x (by repeat (first | exact Sub.nil | apply Sub.cons rfl | refine Sub.cons_eq rfl (by simp only [v10, v9, cond_true, cond_false]) ?_)) (fun w' hw' => by first | exact hw' | (simp only [v10, v9, cond_true, cond_false]; exact hw'))
      · cases ho
        have h10 : e 10 = true := hd ⟨10, .data⟩ (by simp) rfl
        have v11 : Eng.upd e 11 11 = true := upd_eq
        have v10 : Eng.upd e 11 10 = true := upd_mono h10
        simp only [hei, h10, cond_true, cond_false]
        apply OL.buildSlice; rfl; rfl; rfl; apply Elems.cons rfl; exact CellsL.one rfl; rfl; apply Elems.nil; apply App.cons; apply App.nil; rfl; rfl; (intro bk hbk; simp only [AllLe, and_true] at hbk)
        apply OL.nil
        exact At.beside { x with b1 := bk, hb1 := ⟨hbk, trivial⟩ } (by repeat (first | exact Sub.nil | apply Sub.cons rfl | refine Sub.cons_eq rfl (by simp only [v11, v10, cond_true, cond_false]) ?_)) (fun w' hw' => by simp only [v11, v10, cond_true, cond_false]; exact Cls.fill (p := 7) (H := _ :: _ :: _ :: _ :: _ :: _ :: _ :: _ :: []) (.s (.s (.s (.s (.s (.s (.s .z))))))) hw')
      · cases ho
        have h0 : e 0 = true := hd ⟨0, .data⟩ (by simp) rfl
        have h11 : e 11 = true := hd ⟨11, .data⟩ (by simp) rfl
        have h13 : e 13 = false := hcl.not (i := 12) (j := 13) rfl hei (by kernel_rfl)
        have v12 : Eng.upd e 12 12 = true := upd_eq
        have v0 : Eng.upd e 12 0 = true := upd_mono h0
        have v11 : Eng.upd e 12 11 = true := upd_mono h11
        have v13 : Eng.upd e 12 13 = false := h13
        simp only [hei, h0, h11, h13, cond_true, cond_false]
        apply OL.append
        rfl
        rfl
        rfl
        rfl
        (repeat (first | apply Hole.z | apply Hole.s))
        (repeat (first | exact List.Mem.head _ | apply List.Mem.tail))
        (repeat (first | apply Take.zero | apply Take.succ))
        rfl
        rfl
        exact hbS
        omega
        intro O1 g1 cap1
        apply OL.nil
        exact At.beside { x with g1 := g1, c1 := cap1, O1 := O1 } (by repeat (first | exact Sub.nil | apply Sub.cons rfl | refine Sub.cons_eq rfl (by simp only [v12, v0, v11, v13, cond_true, cond_false]) ?_)) (fun w' hw' => by first | exact hw' | (simp only [v12, v0, v11, v13, cond_true, cond_false]; exact hw'))
      · cases ho
        have h12 : e 12 = true := hd ⟨12, .data⟩ (by simp) rfl
        have v13 : Eng.upd e 13 13 = true := upd_eq
        have v12 : Eng.upd e 13 12 = true := upd_mono h12
        simp only [hei, h12, cond_true, cond_false]
        apply oas; rfl; rfl
        apply OL.nil
        exact At.beside x (by repeat (first | exact Sub.nil | apply Sub.cons rfl | refine Sub.cons_eq rfl (by simp only [v13, v12, cond_true, cond_false]) ?_)) (fun w' hw' => by first | exact hw' | (simp only [v13, v12, cond_true, cond_false]; exact hw'))
    · intro x e hall
      have hx1 := x.hb1
      have em : (if 0 < kv then kv else 0) = max 0 kv := by rw [Int.max_def]; split <;> split <;> omega
      simp only [hall 0 (by decide), hall 1 (by decide), hall 2 (by decide), hall 3 (by decide), hall 4 (by decide), hall 5 (by decide), hall 6 (by decide), hall 7 (by decide), hall 8 (by decide), hall 9 (by decide), hall 10 (by decide), hall 11 (by decide), hall 12 (by decide), hall 13 (by decide), cond_true, cond_false, em]
      with_reducible apply At.in_normal
      with_reducible apply At.next
      apply W.reg
      apply obn; rfl; rfl; rfl; apply Bin.add_in; omega
      apply omv; rfl; rfl
      apply OL.nil
      refine At.again (i + 1, ⟨x.O1, some ⟨x.g1, 0, none⟩, x.c1⟩, xs ++ [max 0 kv]) ⟨by simp only; omega, by simp [hxl], fun j v hj => ?_⟩ (by simp only; omega) (by (repeat (first | exact Sub.nil | apply Sub.cons rfl | (refine Sub.cons_eq rfl (congrArg (Value.int .i64) (by first | omega | (simp only; omega))) ?_)))) (fun w' hw' => ?_)
      · simp only at hj
        by_cases e1 : j < xs.length
        · rw [List.getElem?_append_left e1] at hj
          exact hRo j v hj
        · rw [List.getElem?_append_right (by omega)] at hj
          have hj0 : j - xs.length = 0 := by
            have := (List.getElem?_eq_some_iff.1 hj).1
            simp at this
            omega
          rw [hj0] at hj
          have hji : j = i := by omega
          subst hji
          simp at hj
          exact ⟨hil, d, r, kv, hr, hkv, hj.symm⟩
      · simp only [ins_snoc]
        exact hw'.thin (.keep (.keep (.keep (.keep (.keep (.keep (.keep (.blk x.hb1 Thin.same))))))))
  · obtain rfl : i = n := by omega
    apply W.exit
    with_reducible apply At.then_exit
    with_reducible apply At.then_exit
    with_reducible apply At.in_exit
    with_reducible apply At.next
    apply W.seq
    apply W.reg
    apply omv; rfl; rfl
    apply oas; rfl; rfl
    apply oas; rfl; rfl
    apply OL.nil
    with_reducible apply At.next
    apply W.ret
    ((with_reducible apply At.fin2); rfl; rfl; rfl; intro w' hw')
    exact ⟨0, qo, co, xs, by rw [hxl], ⟨fun h0 => absurd he0 h0, fun _ => ⟨σ, hW, fun h0 => absurd rfl h0, fun _ => ⟨hxl, hRo⟩⟩⟩, by (exact hw'.toExt (by (repeat (first | exact List.Mem.head _ | apply List.Mem.tail))) (fun k hk => by (focus ((try simp only [add_block]); (repeat (first | exact NotOwned.nil | exact hno _ (by omega) | refine NotOwned.nothing ?_ | refine NotOwned.nds (hlow _ (by omega)) ?_ | refine NotOwned.mapS (by omega) ?_ | apply NotOwned.bif | refine NotOwned.blk (by omega) ?_ | refine NotOwned.row (by omega) ?_ | refine NotOwned.grid (by assumption) (by omega) ?_ | refine NotOwned.pile (by omega) ?_)); done)))), SlAt.of_row (hw'.item (.tail _ (.tail _ (.tail _ (.tail _ (.tail _ (.tail _ (.head _))))))))⟩
end Go.Proofs.YtaponemcbnnebaaDoor.ki
