/- The walk of the solver's want. Conditions: none. -/
import Derived.Test.YtaponemcbnnebaaDoorKiF
import Derived.Test.YtaponemcbnnebaaDoorZip
namespace Go.Eng
open Go.RowKit
variable {H A I : List Item} {S : List World} {w : World}
theorem Cls.mid (h : Cls (A ++ (I ++ H)) S w) : Cls (I ++ (A ++ H)) S w := h.perm (by
  rw [← List.append_assoc, ← List.append_assoc]
  exact List.Perm.append_right H List.perm_append_comm)
theorem AllLe.up {B : Nat} : ∀ {S : List World} {k : Nat}, AllLe S B → B ≤ k → AllLe S k
  | [], _, _, _ => trivial
  | x :: S, k, h, hk => ⟨Nat.le_trans h.1 hk, AllLe.up h.2 hk⟩
theorem Cls.back_ {g x a b c d e f : Item} (h : Cls (g :: x :: a :: b :: c :: d :: e :: f :: H) S w) : Cls (g :: a :: b :: c :: d :: e :: f :: x :: H) S w := h.perm (by
  refine List.Perm.cons _ ?_
  exact List.Perm.append_right H (List.perm_append_comm (l₁ := [x]) (l₂ := [a, b, c, d, e, f])))
/-- items that came late -/
def Late (b : Nat) (A : List Item) : Prop := ∀ i ∈ A, ∀ k, i.own k → b ≤ k
theorem Late.nil {b : Nat} : Late b [] := fun i hi => by cases hi
theorem Late.cons {b : Nat} {i : Item} (hi : ∀ k, i.own k → b ≤ k) (h : Late b A) : Late b (i :: A) := fun j hj => by
  cases hj with
  | head => exact hi
  | tail _ hj => exact h j hj
theorem Late.no {b k : Nat} (h : Late b A) (hk : k < b) (hn : NotOwned H k) : NotOwned (A ++ H) k := by
  induction A with
  | nil => exact hn
  | cons i A ih =>
    exact .any (fun ho => by have := h i (.head _) k ho; omega) (ih fun j hj => h j (.tail _ hj))
theorem Cls.drops {b : Nat} (h : Cls (I ++ (A ++ H)) S w) (hb : AllLe S b) (hA : Late b A) : Cls (I ++ H) S w := by
  refine h.thin ?_
  have h2 : ∀ {A : List Item}, Late b A → Thin S (A ++ H) H := fun {A} hA => by
    induction A with
    | nil => exact Thin.same
    | cons i A ih => exact Thin.any (fun k hk => AllLe.up hb (hA i (.head _) k hk)) (ih fun j hj => hA j (.tail _ hj))
  clear h
  induction I with
  | nil => exact h2 hA
  | cons i I ih => exact Thin.keep ih
end Go.Eng
namespace Go.Proofs.YtaponemcbnnebaaDoor.ki
open Go.RowKit Go.Eng Go.Ki
set_option linter.unusedVariables false
set_option linter.unusedSimpArgs false
set_option maxRecDepth 100000
theorem list1 {α : Type} : ∀ {l : List α}, l.length = 1 → ∃ a, l = [a]
  | [a], _ => ⟨a, rfl⟩
theorem list2 {α : Type} : ∀ {l : List α}, l.length = 2 → ∃ a b, l = [a, b]
  | [a, b], _ => ⟨a, b, rfl⟩
theorem list3 {α : Type} : ∀ {l : List α}, l.length = 3 → ∃ a b c, l = [a, b, c]
  | [a, b, c], _ => ⟨a, b, c, rfl⟩
theorem mem3 {α : Type} {x a b c : α} (h : x ∈ [a, b, c]) : x = a ∨ x = b ∨ x = c := by simpa using h
theorem mem2 {α : Type} {x a b : α} (h : x ∈ [a, b]) : x = a ∨ x = b := by simpa using h
abbrev prt (B : Nat) (g : GP) (l : List Pt) : Eng.Item := row B g.O g.q l.length g.c 77 5 (cat ptc l)
structure WS where
  l : List Pt
  g : GP
  A : List Eng.Item
theorem want_calls (B n : Nat) (s0 : World) (kn : List ByteArray) (ds : List DS) (fi vs : List Nat) (gf gv : GP) (L : Loc)
    (hR : Rd B s0 kn ds fi gf L) (hvl : vs.length ≤ 100000) (hvs : ∀ x ∈ vs, x < n) (hps : ∀ nm l, psF kn nm ds fi = some l → (∀ s ∈ l, s < n) ∧ l.length ≤ 4096) :
    ∀ (m : Nat) (p : Pa) (slot : Nat) (σ : Sol) (H : List Eng.Item) (S : List World) (w : World), p.t.sz ≤ m → TyC s0 B p.t (tcc p) → wg p.t = true → slot < n → Inv σ → σ.up.length = n → (∀ k, k < B → NotOwned H k) →
      Cls (L.items n σ (ri B gf fi :: ri B gv vs :: H)) (s0 :: S) w →
      Calls Tryd.prog 22 [.pointer (some ⟨L.bs, 0, none⟩), .agg (tcc p).toArray, .int .i64 (slot : Int), .slice gv.q vs.length gv.c].toArray w fun e w' => ∃ (er : Int) (σ' : Sol), e = .returned (.int .i64 er) ∧ Wanted (Cond p.t slot) (pkF kn ds fi) vs σ p.t slot er σ' ∧
        Cls (L.items n σ' (ri B gf fi :: ri B gv vs :: H)) (s0 :: S) w' := by
  intro m
  induction m with
  | zero =>
    intro p slot σ H S w hm
    obtain ⟨⟨k, nm, v, ts⟩, q, cap⟩ := p
    simp only [Ty.sz] at hm
    omega
  | succ m ih =>
  intro p slot σ H S w hm ht hwf hsl hinv hn hno hc
  have hpar := fun (g : GP) (Bg : Nat) (H : List Eng.Item) (S : List World) (w2 : World) (nm : ByteArray) => params_calls B Bg s0 kn ds fi gf L n σ H S w2 nm hR
  have hjoin := fun (σ : Sol) (H : List Eng.Item) (S : List World) (w2 : World) hn hv hc => join_calls L n σ H S w2 hn hv hc
  have hroot := fun (σ : Sol) (H : List Eng.Item) (S : List World) (w2 : World) hn hc => root_calls L n σ H S w2 hn hc
  have hBs := hR.hB
  have hlb := hR.lb
  have hls := hR.ls
  clear hR
  obtain ⟨B', bs, k1, k2, k3, P1, q1, c1, P2, q2, c2⟩ := L
  obtain ⟨Of, qf, cf⟩ := gf
  obtain ⟨Ov, qv, cv⟩ := gv
  simp only at hlb hls
  subst hlb
  simp only [Loc.items, Loc.cells, ri] at hc hpar hjoin hroot ih ⊢
  have hBw : B' ≤ w.heap.size := Nat.le_trans hBs (hc.kp s0 (.head _)).size
  have hAll : AllLe (s0 :: w :: S) w.heap.size := AllLe.mk (hc.note.forget (S' := s0 :: w :: S) (by simp; exact fun s hs => .inr (.inr hs)))
  have hc' : Cls (row B' P1 q1 n c1 3 1 (nts σ.up) :: row B' P2 q2 n c2 3 1 (ins σ.kind) :: blk bs 64 [k1, k2, k3, .slice q1 n c1, .slice q2 n c2] :: row B' Of qf fi.length cf 3 1 (nts fi) :: row B' Ov qv vs.length cv 3 1 (nts vs) :: H) (s0 :: w :: S) w := hc.note.forget (S' := s0 :: w :: S) (by simp; exact fun s hs => .inr (.inr hs))
  clear hc
  obtain ⟨ps, hpt, hpa, hpty⟩ := TyC.parts ht
  obtain ⟨hi1, hi2, hi3⟩ := TyC.ints ht
  obtain ⟨⟨k, nm, v, ts⟩, q, cap⟩ := p
  simp only [Ty.args] at hpt
  subst hpt
  simp only [tcc, Ty.kind, Ty.name, Ty.var, Ty.args] at ht hi1 hi2 hi3 hm hwf ⊢
  obtain ⟨hk, hv, hmany, hws⟩ := wg_un hwf
  rw [List.length_map] at hi3 hmany
  simp only [List.length_map]
  have hfor : ∀ s ∈ s0 :: S, s ∈ s0 :: w :: S := fun s hs => by
    rcases List.mem_cons.1 hs with rfl | hs
    · exact .head _
    · exact .tail _ (.tail _ hs)
  have hend : ∀ (σ' : Sol) (A : List Eng.Item) (w' : World), Late w.heap.size A → Cls (row B' P1 q1 n c1 3 1 (nts σ'.up) :: row B' P2 q2 n c2 3 1 (ins σ'.kind) :: blk bs 64 [k1, k2, k3, .slice q1 n c1, .slice q2 n c2] :: row B' Of qf fi.length cf 3 1 (nts fi) :: row B' Ov qv vs.length cv 3 1 (nts vs) :: (A ++ H)) (s0 :: w :: S) w' → Cls (row B' P1 q1 n c1 3 1 (nts σ'.up) :: row B' P2 q2 n c2 3 1 (ins σ'.kind) :: blk bs 64 [k1, k2, k3, .slice q1 n c1, .slice q2 n c2] :: row B' Of qf fi.length cf 3 1 (nts fi) :: row B' Ov qv vs.length cv 3 1 (nts vs) :: H) (s0 :: S) w' := fun σ' A w' hA hw' => (Cls.drops (I := [_, _, _, _, _]) hw' hAll hA).forget hfor
  refine enter Tryd.func22 rfl Tryd.ntmps22 rfl hc' ?_
  (simp only [argEnv, Nat.zero_add, Nat.reduceAdd])
  apply W.seq
  apply W.reg
  apply OL.box; rfl; rfl; exact CellsL.agg; (intro bk hbk; simp only [AllLe, and_true] at hbk)
  apply oas; rfl; rfl
  apply OL.nil
  with_reducible apply At.next
  apply W.seq
  apply W.reg
  apply oas; rfl; rfl
  apply OL.nil
  with_reducible apply At.next
  apply W.seq
  apply W.seq
  apply W.reg
  apply ofa; rfl; rfl; rfl
  apply old; rfl; rfl; exact .head _; rfl; rfl
  apply OL.nil
  with_reducible apply At.next
  revert bk
  intro bt hbt
  have hbt2 : AllLe (s0 :: w :: S) bt := hbt
  refine W.cls (C' := Cls (row B' P1 q1 n c1 3 1 (nts σ.up) :: row B' P2 q2 n c2 3 1 (ins σ.kind) :: blk bs 64 [k1, k2, k3, .slice q1 n c1, .slice q2 n c2] :: row B' Of qf fi.length cf 3 1 (nts fi) :: row B' Ov qv vs.length cv 3 1 (nts vs) :: blk bt 24 [.int .i64 k, .string nm, .int .i64 v, .slice q ps.length cap] :: H) (s0 :: w :: S)) (fun w' hw' => Cls.mid (A := [_]) (I := [_, _, _, _, _]) hw') ?_
  have hbtw : w.heap.size ≤ bt := hbt.2.1
  have hlbt : ∀ cs : List Value, Late w.heap.size [blk bt 24 cs] := fun cs => Late.cons (fun x hx => by have hx' : x = bt := hx; omega) Late.nil
  have hbS : ∃ s ∈ s0 :: w :: S, w.heap.size ≤ s.heap.size := ⟨w, .tail _ (.head _), Nat.le_refl _⟩
  have hrowL : ∀ {O : Nat → Prop} {q : Option Addr} {m cap sz : Nat} {e : TypeId} {xs : List Value} (x : Nat), (row w.heap.size O q m cap e sz xs).own x → w.heap.size ≤ x := fun x hx => hx.1
  refine W.joinx (G := WS) (fun g => PartsOf (pkF kn ds fi) vs σ (.mk k nm v (ps.map Pa.t)) slot g.l ∧ (∀ x ∈ g.l, GoodP (Cond (.mk k nm v (ps.map Pa.t)) slot) s0 B' n (Ty.mk k nm v (ps.map Pa.t)).sz x) ∧ Late w.heap.size g.A ∧ g.l.length ≤ 4096 ∧ k ≠ 0)
    (fun g => [(0, true, .pointer (some ⟨bs, 0, none⟩)), (2, true, .int .i64 (slot : Int)), (3, true, .slice qv vs.length cv), (5, true, .pointer (some ⟨bt, 0, none⟩)), (9, true, .slice g.g.q g.l.length g.g.c)])
    (fun g => Cls (row w.heap.size g.g.O g.g.q g.l.length g.g.c 77 5 (cat ptc g.l) :: row B' P1 q1 n c1 3 1 (nts σ.up) :: row B' P2 q2 n c2 3 1 (ins σ.kind) :: blk bs 64 [k1, k2, k3, .slice q1 n c1, .slice q2 n c2] :: row B' Of qf fi.length cf 3 1 (nts fi) :: row B' Ov qv vs.length cv 3 1 (nts vs) :: blk bt 24 [.int .i64 k, .string nm, .int .i64 v, .slice q ps.length cap] :: (g.A ++ H)) (s0 :: w :: S)) ?_ ?_
  · apply W.block
    apply W.seq
    apply W.reg
    apply obn; rfl; rfl; rfl; apply Bin.eql
    apply oas; rfl; rfl
    apply OL.nil
    with_reducible apply At.next
    (refine W.cond rfl (fun h0 => ?_) (fun h0 => ?_)) <;> (try (simp only [Bool.and_eq_true, Bool.or_eq_true, Bool.not_eq_true', Bool.and_eq_false_iff, Bool.or_eq_false_iff, Bool.not_eq_false', decide_eq_true_eq, decide_eq_false_iff_not, Int.not_lt, Int.not_le] at h0)) <;> (try (exfalso; first | omega | exact h0 trivial | contradiction))
    · apply W.seq
      apply W.seq
      apply W.reg
      apply ofa; rfl; rfl; rfl
      apply old; rfl; rfl; apply List.Mem.tail; apply List.Mem.tail; apply List.Mem.tail; exact .tail _ (.tail _ (.head _)); rfl; rfl
      apply omv; rfl; rfl
      apply OL.op; exact Guard.none; rfl; rfl; apply Pev.len_slice; rfl; exact yes; rfl
      apply obn; rfl; rfl; rfl; apply Bin.geq
      apply OL.nil
      with_reducible apply At.next
      (refine W.cond rfl (fun h1 => ?_) (fun h1 => ?_)) <;> (try (simp only [Bool.and_eq_true, Bool.or_eq_true, Bool.not_eq_true', Bool.and_eq_false_iff, Bool.or_eq_false_iff, Bool.not_eq_false', decide_eq_true_eq, decide_eq_false_iff_not, Int.not_lt, Int.not_le] at h1)) <;> (try (exfalso; first | omega | exact h1 trivial | contradiction))
      · apply W.seq
        apply W.reg
        apply oas; rfl; rfl
        apply OL.nil
        with_reducible apply At.next
        apply W.ret
        with_reducible apply At.then_ret
        with_reducible apply At.in_ret
        with_reducible apply At.then_ret
        ((with_reducible apply At.fin1); rfl; rfl; intro w' hw')
        refine ⟨6, σ, rfl, ⟨hinv, rfl, fun _ h => by omega, fun _ _ => ⟨.inl rfl, fun f _ => ?_⟩⟩, hend σ [_] _ (hlbt _) hw'⟩
        subst h0
        exact var_no h1 f
      · subst h0
        obtain ⟨j, rfl⟩ := Int.eq_ofNat_of_zero_le (show 0 ≤ v by omega)
        have hjl : j < vs.length := by omega
        obtain ⟨x, hx⟩ : ∃ x, vs[j]? = some x := ⟨_, List.getElem?_eq_getElem hjl⟩
        have hxn := hvs x (List.mem_of_getElem? hx)
        obtain ⟨v0, hv0⟩ := row_some (hc'.item (.tail _ (.tail _ (.tail _ (.tail _ (.head _)))))) (show 0 < vs.length by omega)
        subst hv0
        have hcx := nts_get hx
        apply W.skip
        with_reducible apply At.next
        apply W.seq
        apply W.reg
        apply omv; rfl; rfl
        apply omv; rfl; rfl
        apply ofa; rfl; rfl; rfl
        apply old; rfl; rfl; apply List.Mem.tail; apply List.Mem.tail; apply List.Mem.tail; exact .tail _ (.tail _ (.head _)); rfl; rfl
        apply OL.op; exact Guard.none; rfl; rfl; apply Pev.idxB; rfl; exact yes; rfl; exact yes; rfl; intro hcond; omega; rfl
        apply OL.op; exact Guard.none; rfl; rfl; apply Pev.load_row; rfl; exact yes; apply List.Mem.tail; apply List.Mem.tail; exact .tail _ (.tail _ (.head _)); rfl; assumption
        apply omv; rfl; rfl
        refine OL.callE (α := Int × Sol) (fun x => .int .i64 x.1) (fun g => Joined σ x slot g.1 g.2) (fun g => Cls (row B' P1 q1 n c1 3 1 (nts g.2.up) :: row B' P2 q2 n c2 3 1 (ins g.2.kind) :: blk bs 64 [k1, k2, k3, .slice q1 n c1, .slice q2 n c2] :: row B' Of qf fi.length cf 3 1 (nts fi) :: row B' Ov (some ⟨v0, 0, none⟩) vs.length cv 3 1 (nts vs) :: blk bt 24 [.int .i64 0, .string nm, .int .i64 (j : Int), .slice q ps.length cap] :: H) (s0 :: w :: S)) rfl rfl (by (repeat (first | exact Args.nil | (apply Args.cons rfl; ((first | exact fun _ => rfl | exact fun h => h | (intro h; simp_all; done))))))) (fun w2 hw2 => (hjoin σ _ _ w2 hn hinv hw2 x slot hxn hsl).mono fun e w3 ⟨er, σ2, h1, h2, h3⟩ => ⟨(er, σ2), h1, h2, h3⟩) ?_
        rintro ⟨er, σ2⟩ hj
        apply oas; rfl; rfl
        apply OL.nil
        with_reducible apply At.next
        apply W.ret
        with_reducible apply At.in_ret
        with_reducible apply At.then_ret
        ((with_reducible apply At.fin1); rfl; rfl; intro w' hw')
        exact ⟨er, σ2, rfl, var_join hx hj, hend σ2 [_] _ (hlbt _) hw'⟩
    · apply W.seq
      apply W.reg
      apply obn; rfl; rfl; rfl; apply Bin.eql
      apply oas; rfl; rfl
      apply OL.nil
      with_reducible apply At.next
      (refine W.cond rfl (fun h1 => ?_) (fun h1 => ?_)) <;> (try (simp only [Bool.and_eq_true, Bool.or_eq_true, Bool.not_eq_true', Bool.and_eq_false_iff, Bool.or_eq_false_iff, Bool.not_eq_false', decide_eq_true_eq, decide_eq_false_iff_not, Int.not_lt, Int.not_le] at h1)) <;> (try (exfalso; first | omega | exact h1 trivial | contradiction))
      · subst h1
        apply W.seq
        apply W.reg
        apply omv; rfl; rfl
        apply ofa; rfl; rfl; rfl
        apply old; rfl; rfl; apply List.Mem.tail; apply List.Mem.tail; apply List.Mem.tail; exact .tail _ (.tail _ (.head _)); rfl; rfl
        cases hpo : psF kn nm ds fi with
        | none =>
          refine OL.callE (α := GP) (fun g => .tuple #[.slice g.q 0 g.c, .bool false]) (fun _ => True) (fun g => Cls (row w.heap.size g.O g.q 0 g.c 3 1 (nts []) :: row B' P1 q1 n c1 3 1 (nts σ.up) :: row B' P2 q2 n c2 3 1 (ins σ.kind) :: blk bs 64 [k1, k2, k3, .slice q1 n c1, .slice q2 n c2] :: row B' Of qf fi.length cf 3 1 (nts fi) :: row B' Ov qv vs.length cv 3 1 (nts vs) :: blk bt 24 [.int .i64 1, .string nm, .int .i64 v, .slice q ps.length cap] :: H) (s0 :: w :: S)) rfl rfl (by (repeat (first | exact Args.nil | (apply Args.cons rfl; ((first | exact fun _ => rfl | exact fun h => h | (intro h; simp_all; done))))))) (fun w2 hw2 => ?_) ?_
          · have h := hpar ⟨fun _ => False, none, 0⟩ w.heap.size _ (w :: S) w2 nm hBw ⟨w, .tail _ (.head _), Nat.le_refl _⟩ (fun k hk => by (focus ((try simp only [add_block]); (repeat (first | exact NotOwned.nil | exact hno _ (by omega) | refine NotOwned.nothing ?_ | refine NotOwned.nds (hlow _ (by omega)) ?_ | refine NotOwned.mapS (by omega) ?_ | apply NotOwned.bif | refine NotOwned.blk (by omega) ?_ | refine NotOwned.row (by omega) ?_ | refine NotOwned.grid (by assumption) (by omega) ?_ | refine NotOwned.pile (by omega) ?_)); done))) hw2
            rw [hpo] at h
            exact h.mono fun e w3 ⟨g, h1, h2⟩ => ⟨g, h1, trivial, h2⟩
          intro g _
          apply omv; rfl; rfl
          apply oex; rfl; rfl; rfl
          apply oex; rfl; rfl; rfl
          apply oas; rfl; rfl
          apply oas; rfl; rfl
          apply OL.nil
          with_reducible apply At.next
          apply W.seq
          apply W.seq
          apply W.reg
          apply omv; rfl; rfl
          apply OL.op; exact Guard.none; rfl; rfl; apply Pev.not; rfl; exact yes
          apply OL.nil
          with_reducible apply At.next
          refine W.cond rfl (fun hb => ?_) (fun hb => by simp at hb)
          apply W.seq
          apply W.reg
          apply oas; rfl; rfl
          apply OL.nil
          with_reducible apply At.next
          apply W.ret
          with_reducible apply At.then_ret
          with_reducible apply At.in_ret
          with_reducible apply At.then_ret
          ((with_reducible apply At.fin1); rfl; rfl; intro w' hw')
          refine ⟨6, σ, rfl, ⟨hinv, rfl, fun _ h => by omega, fun _ _ => ⟨.inl rfl, fun f _ => con_none hpo f⟩⟩, hend σ [_, _] _ (Late.cons hrowL (hlbt _)) (Cls.mid (A := [_]) (I := [_, _, _, _, _]) hw')⟩
        | some l =>
          obtain ⟨hlr, hll⟩ := hps nm l hpo
          refine OL.callE (α := GP) (fun g => .tuple #[.slice g.q l.length g.c, .bool true]) (fun _ => True) (fun g => Cls (row w.heap.size g.O g.q l.length g.c 3 1 (nts l) :: row B' P1 q1 n c1 3 1 (nts σ.up) :: row B' P2 q2 n c2 3 1 (ins σ.kind) :: blk bs 64 [k1, k2, k3, .slice q1 n c1, .slice q2 n c2] :: row B' Of qf fi.length cf 3 1 (nts fi) :: row B' Ov qv vs.length cv 3 1 (nts vs) :: blk bt 24 [.int .i64 1, .string nm, .int .i64 v, .slice q ps.length cap] :: H) (s0 :: w :: S)) rfl rfl (by (repeat (first | exact Args.nil | (apply Args.cons rfl; ((first | exact fun _ => rfl | exact fun h => h | (intro h; simp_all; done))))))) (fun w2 hw2 => ?_) ?_
          · have h := hpar ⟨fun _ => False, none, 0⟩ w.heap.size _ (w :: S) w2 nm hBw ⟨w, .tail _ (.head _), Nat.le_refl _⟩ (fun k hk => by (focus ((try simp only [add_block]); (repeat (first | exact NotOwned.nil | exact hno _ (by omega) | refine NotOwned.nothing ?_ | refine NotOwned.nds (hlow _ (by omega)) ?_ | refine NotOwned.mapS (by omega) ?_ | apply NotOwned.bif | refine NotOwned.blk (by omega) ?_ | refine NotOwned.row (by omega) ?_ | refine NotOwned.grid (by assumption) (by omega) ?_ | refine NotOwned.pile (by omega) ?_)); done))) hw2
            rw [hpo] at h
            exact h.mono fun e w3 ⟨g, h1, h2⟩ => ⟨g, h1, trivial, h2⟩
          rintro ⟨Ol, ql, cl⟩ -
          simp only
          apply omv; rfl; rfl
          apply oex; rfl; rfl; rfl
          apply oex; rfl; rfl; rfl
          apply oas; rfl; rfl
          apply oas; rfl; rfl
          apply OL.nil
          with_reducible apply At.next
          apply W.seq
          apply W.seq
          apply W.reg
          apply omv; rfl; rfl
          apply OL.op; exact Guard.none; rfl; rfl; apply Pev.not; rfl; exact yes
          apply OL.nil
          with_reducible apply At.next
          refine W.cond rfl (fun hb => by simp at hb) (fun hb => ?_)
          apply W.skip
          with_reducible apply At.next
          apply W.seq
          apply W.seq
          apply W.reg
          apply omv; rfl; rfl
          apply OL.op; exact Guard.none; rfl; rfl; apply Pev.len_slice; rfl; exact yes; rfl
          apply ofa; rfl; rfl; rfl
          apply old; rfl; rfl; apply List.Mem.tail; apply List.Mem.tail; apply List.Mem.tail; apply List.Mem.tail; exact .tail _ (.tail _ (.head _)); rfl; rfl
          apply OL.op; exact Guard.none; rfl; rfl; apply Pev.len_slice; rfl; exact yes; rfl
          apply obn; rfl; rfl; rfl; apply Bin.neq
          apply OL.nil
          with_reducible apply At.next
          refine W.cond rfl (fun hb => ?_) (fun hb => ?_)
          · apply W.seq
            apply W.reg
            apply oas; rfl; rfl
            apply OL.nil
            with_reducible apply At.next
            apply W.ret
            with_reducible apply At.then_ret
            with_reducible apply At.in_ret
            with_reducible apply At.then_ret
            ((with_reducible apply At.fin1); rfl; rfl; intro w' hw')
            refine ⟨9, σ, rfl, ⟨hinv, rfl, fun _ h => by omega, fun _ _ => ⟨.inr rfl, fun f _ => con_len hpo (by simp at hb; omega) f⟩⟩, hend σ [_, _] _ (Late.cons hrowL (hlbt _)) (Cls.mid (A := [_]) (I := [_, _, _, _, _]) hw')⟩
          have hleq : l.length = ps.length := by simp at hb; omega
          apply W.skip
          with_reducible apply At.next
          apply W.seq
          apply W.reg
          apply ofa; rfl; rfl; rfl
          apply old; rfl; rfl; apply List.Mem.tail; apply List.Mem.tail; apply List.Mem.tail; apply List.Mem.tail; exact .tail _ (.tail _ (.head _)); rfl; rfl
          apply OL.op; exact Guard.none; rfl; rfl; apply Pev.len_slice; rfl; exact yes; rfl
          apply omv; rfl; rfl
          apply OL.nil
          with_reducible apply At.next
          apply W.block
          refine W.loop (G := Nat × GP) (fun g => g.1 ≤ ps.length) (fun g => ps.length - g.1)
            (fun g => [(0, true, .pointer (some ⟨bs, 0, none⟩)), (2, true, .int .i64 (slot : Int)), (3, true, .slice qv vs.length cv), (5, true, .pointer (some ⟨bt, 0, none⟩)), (9, true, .slice g.2.q g.1 g.2.c), (10, true, .slice ql l.length cl), (54, true, .slice q ps.length cap), (55, true, .int .i64 (ps.length : Int)), (56, true, .int .i64 (g.1 : Int))])
            (fun g => Cls (row w.heap.size g.2.O g.2.q g.1 g.2.c 77 5 (cat ptc ((zipP ps l).take g.1)) :: row w.heap.size Ol ql l.length cl 3 1 (nts l) :: row B' P1 q1 n c1 3 1 (nts σ.up) :: row B' P2 q2 n c2 3 1 (ins σ.kind) :: blk bs 64 [k1, k2, k3, .slice q1 n c1, .slice q2 n c2] :: row B' Of qf fi.length cf 3 1 (nts fi) :: row B' Ov qv vs.length cv 3 1 (nts vs) :: blk bt 24 [.int .i64 1, .string nm, .int .i64 v, .slice q ps.length cap] :: H) (s0 :: w :: S)) (0, gp0) (by simp) (by (repeat (first | exact Sub.nil | apply Sub.cons rfl | (refine Sub.cons_eq rfl (congrArg (Value.int .i64) (by first | omega | (simp only; omega))) ?_)))) (fun w' hw' => hw'.row_nil w.heap.size _ 5) ?_
          rintro ⟨i, ⟨Oq, qp, cp⟩⟩ hi
          simp only at hi ⊢
          apply W.seq
          apply W.reg
          apply obn; rfl; rfl; rfl; apply Bin.lss
          apply OL.nil
          with_reducible apply At.next
          apply W.seq
          (refine W.cond rfl (fun hlt => ?_) (fun hlt => ?_)) <;> (try (simp only [Bool.and_eq_true, Bool.or_eq_true, Bool.not_eq_true', Bool.and_eq_false_iff, Bool.or_eq_false_iff, Bool.not_eq_false', decide_eq_true_eq, decide_eq_false_iff_not, Int.not_lt, Int.not_le] at hlt)) <;> (try (exfalso; first | omega | exact hlt trivial | contradiction))
          · have hil : i < ps.length := by omega
            obtain ⟨a, p, rfl, hab, hp, hcp⟩ := SlAt.elem hpa tcc_len (by decide) hil
            simp only [tcc] at hcp
            have hab2 : a.block < s0.heap.size := by omega
            obtain ⟨s, hs⟩ : ∃ s, l[i]? = some s := ⟨_, List.getElem?_eq_getElem (by omega)⟩
            refine W.fact (fun w2 hw2 => row_some (hw2.item (.tail _ (.head _))) (show 0 < l.length by omega)) ?_
            rintro ⟨lb, rfl⟩
            have hcs := nts_get hs
            apply W.skip
            with_reducible apply At.next
            apply W.seq
            apply W.block
            apply W.seq
            apply W.reg
            apply omv; rfl; rfl
            apply OL.op; exact Guard.none; rfl; rfl; apply Pev.idx; rfl; exact yes; rfl; exact yes; rfl; rfl; intro hcond; omega
            apply OL.op; exact Guard.none; rfl; rfl; apply Pev.load_keptA; rfl; exact yes; exact .head _; rfl; intro hcond; assumption; rfl; intro hcond; (rw [add_block]; assumption); intro hcond; simp only [add_block]; refine NotOwned.row (by omega) ?_; refine NotOwned.row (by omega) ?_; refine NotOwned.row (by omega) ?_; refine NotOwned.row (by omega) ?_; refine NotOwned.blk (by omega) ?_; refine NotOwned.row (by omega) ?_; refine NotOwned.row (by omega) ?_; refine NotOwned.blk (by omega) ?_; exact hno _ (by omega)
            apply OL.alloc; rfl; rfl; exact CellsL.agg; (intro bk hbk; simp only [AllLe, and_true] at hbk)
            apply oas; rfl; rfl
            apply OL.storeB; rfl; rfl; exact CellsL.agg; rfl; rfl; rfl; apply Swap.z; apply Put.here; apply Over.cons; apply Over.cons; apply Over.cons; apply Over.cons; apply Over.nil
            apply OL.nil
            with_reducible apply At.next
            apply W.regz; apply ZSplit.pure rfl; apply ZSplit.pure rfl; apply ZSplit.pure rfl; apply ZSplit.pure rfl; apply ZSplit.pure rfl; apply ZSplit.pure rfl; apply ZSplit.pure rfl; apply ZSplit.tail; apply ZSplit.tail; apply ZSplit.tail; exact ZSplit.nil; kernel_rfl; decide +kernel; exact fun w hw => hw.drew
            apply ZL.op rfl; exact Guard.none; rfl; rfl; apply Pev.move; rfl; exact yes
            apply ZL.ld rfl; exact Guard.none; rfl; rfl; apply Pev.load_blkA; rfl; exact yes; exact .head _; rfl; apply Take.succ; apply Take.succ; apply Take.succ; apply Take.succ; apply Take.zero
            apply ZL.op rfl; exact Guard.none; rfl; rfl; apply Pev.move; rfl; exact yes
            apply ZL.op rfl; exact Guard.none; rfl; rfl; apply Pev.move; rfl; exact yes
            apply ZL.op rfl; exact Guard.none; rfl; rfl; apply Pev.idxB; rfl; exact yes; rfl; exact yes; rfl; intro hcond; omega; rfl
            apply ZL.ld rfl; exact Guard.none; rfl; rfl; apply Pev.load_row; rfl; exact yes; exact .tail _ (.tail _ (.head _)); rfl; assumption
            apply ZL.op rfl; exact Guard.none; rfl; rfl; apply Pev.build; rfl; exact CellsL.agg; rfl; apply Fill.cons rfl; exact CellsL.agg; rfl; rfl; apply Put.here; apply Over.cons; apply Over.cons; apply Over.cons; apply Over.cons; apply Over.nil; apply Fill.cons rfl; exact CellsL.one rfl; rfl; rfl; apply Put.skip; apply Put.skip; apply Put.skip; apply Put.skip; apply Put.here; apply Over.cons; apply Over.nil; apply Fill.nil; rfl
            apply ZL.nil
            apply TL.one rfl
            apply OL.buildSlice; rfl; rfl; rfl; apply Elems.cons rfl; exact CellsL.agg; rfl; apply Elems.nil; apply App.cons; apply App.cons; apply App.cons; apply App.cons; apply App.cons; apply App.nil; rfl; rfl; (intro bk hbk; simp only [AllLe, and_true] at hbk)
            apply OL.nil
            with_reducible apply At.tn; decide +kernel
            apply TL.one rfl
            apply OL.append; rfl; rfl; rfl; rfl; apply Hole.s; apply Hole.s; apply Hole.z; exact .head _; apply Take.succ; apply Take.succ; apply Take.succ; apply Take.succ; apply Take.succ; apply Take.zero; rfl; rfl; assumption; omega; intro O1 g1 cap1
            apply OL.nil
            with_reducible apply At.tn; decide +kernel
            apply TL.one rfl
            apply oas; rfl; rfl
            apply OL.nil
            with_reducible apply At.tn; decide +kernel
            apply TL.nil
            with_reducible apply At.np
            with_reducible apply At.in_normal
            with_reducible apply At.next
            apply W.reg
            apply obn; rfl; rfl; rfl; apply Bin.add_in; omega
            apply omv; rfl; rfl
            apply OL.nil
            rw [snoc_zip hp hs]
            exact At.again (i + 1, ⟨O1, some ⟨g1, 0, none⟩, cap1⟩) (by simp only; omega) (by simp only; omega) (by (repeat (first | exact Sub.nil | apply Sub.cons rfl | (refine Sub.cons_eq rfl (congrArg (Value.int .i64) (by first | omega | (simp only; omega))) ?_)))) (fun w' hw' => hw'.thin (by (repeat (first | exact Thin.nil | exact Thin.same | apply Thin.keep | (refine Thin.blk (by assumption) ?_) | (refine Thin.blk (by simp only [AllLe, and_true]; omega) ?_)))))
          · have hie : i = ps.length := by omega
            subst hie
            have hzl : (zipP ps l).length = ps.length := by simp [zipP, hleq]
            rw [List.take_of_length_le (by omega)]
            apply W.exit
            with_reducible apply At.then_exit
            with_reducible apply At.then_exit
            with_reducible apply At.in_exit
            with_reducible apply At.in_normal
            refine At.joinedx ⟨zipP ps l, ⟨Oq, qp, cp⟩, [row w.heap.size Ol ql l.length cl 3 1 (nts l)]⟩ ⟨con_parts hpo hleq, fun x hx => ?_, Late.cons hrowL Late.nil, by simp only; omega, by omega⟩ (by rw [hzl]; (repeat (first | exact Sub.nil | apply Sub.cons rfl | (refine Sub.cons_eq rfl (congrArg (Value.int .i64) (by first | omega | (simp only; omega))) ?_)))) (fun w' hw' => by
              rw [hzl]
              exact Cls.back_ hw')
            obtain ⟨i, hi⟩ := List.getElem?_of_mem hx
            obtain ⟨h1, h2⟩ := zip_inv hi
            exact good (p := x.p) hwf hpty h1 (hlr _ (List.mem_of_getElem? h2)) ⟨by omega, by omega, by omega⟩
      · have hce : ∀ {i : Nat} {p : Pa}, ps[i]? = some p → ∃ a, q = some a ∧ (a.block < B' ∧ a.block < s0.heap.size) ∧ CellsAt s0 (a.add (i * 4)) [.int .i64 p.t.kind, .string p.t.name, .int .i64 p.t.var, .slice p.q p.t.args.length p.cap] := fun {i p} hp => by
          obtain ⟨a, p', rfl, hab, hp', hcp⟩ := SlAt.elem hpa tcc_len (by decide) (List.getElem?_eq_some_iff.1 hp).1
          rw [hp] at hp'
          obtain rfl := Option.some.inj hp'
          exact ⟨a, rfl, ⟨hab, by omega⟩, hcp⟩
        clear hpar
        apply W.seq
        apply W.reg
        apply obn; rfl; rfl; rfl; apply Bin.eql
        apply oas; rfl; rfl
        apply OL.nil
        with_reducible apply At.next
        (refine W.cond rfl (fun h2 => ?_) (fun h2 => ?_)) <;> (try (simp only [Bool.and_eq_true, Bool.or_eq_true, Bool.not_eq_true', Bool.and_eq_false_iff, Bool.or_eq_false_iff, Bool.not_eq_false', decide_eq_true_eq, decide_eq_false_iff_not, Int.not_lt, Int.not_le] at h2)) <;> (try (exfalso; first | omega | exact h2 trivial | contradiction))
        · subst h2
          have hl3 : ps.length = 3 := by simp [manyOf] at hmany; omega
          obtain ⟨p0, p1, p2, rfl⟩ := list3 hl3
          obtain ⟨a, rfl, ⟨hab, hab2⟩, hc0⟩ := hce (i := 0) rfl
          obtain ⟨a', e1, _, hc1⟩ := hce (i := 1) rfl
          obtain rfl := Option.some.inj e1
          obtain ⟨a', e1, _, hc2⟩ := hce (i := 2) rfl
          obtain rfl := Option.some.inj e1
          clear hce
          apply W.regq; apply Split.s rfl; apply Split.s rfl; apply Split.s rfl; apply Split.s rfl; apply Split.s rfl; apply Split.s rfl; apply Split.s rfl; apply Split.s rfl; apply Split.s rfl; apply Split.s rfl; apply Split.s rfl; apply Split.s rfl; apply Split.s rfl; apply Split.s rfl; apply Split.s rfl; exact Split.z rfl; kernel_rfl; decide +kernel; exact fun w hw => hw.drew
          apply qfa; rfl; rfl; rfl
          apply qld; rfl; rfl; apply List.Mem.tail; apply List.Mem.tail; apply List.Mem.tail; exact .tail _ (.tail _ (.head _)); rfl; rfl
          apply QL.op; exact Guard.none; rfl; rfl; apply Pev.idx; rfl; exact yes; rfl; exact yes; rfl; rfl; intro hcond; (simp only [Bool.and_eq_true, Bool.or_eq_true, Bool.not_eq_true', decide_eq_true_eq, decide_eq_false_iff_not] at *; omega)
          apply QL.op; exact Guard.none; rfl; rfl; apply Pev.load_keptA; rfl; exact yes; exact .head _; rfl; intro hcond; assumption; rfl; intro hcond; assumption; intro hcond; simp only [add_block]; refine NotOwned.row (by omega) ?_; refine NotOwned.row (by omega) ?_; refine NotOwned.blk (by omega) ?_; refine NotOwned.row (by omega) ?_; refine NotOwned.row (by omega) ?_; refine NotOwned.blk (by omega) ?_; exact hno _ (by omega)
          apply QL.op; exact Guard.none; rfl; rfl; apply Pev.build; rfl; exact CellsL.agg; rfl; apply Fill.cons rfl; exact CellsL.agg; rfl; rfl; apply Put.here; apply Over.cons; apply Over.cons; apply Over.cons; apply Over.cons; apply Over.nil; apply Fill.cons rfl; exact CellsL.one rfl; rfl; rfl; apply Put.skip; apply Put.skip; apply Put.skip; apply Put.skip; apply Put.here; apply Over.cons; apply Over.nil; apply Fill.nil; rfl
          apply qfa; rfl; rfl; rfl
          apply qld; rfl; rfl; apply List.Mem.tail; apply List.Mem.tail; apply List.Mem.tail; exact .tail _ (.tail _ (.head _)); rfl; rfl
          apply QL.op; exact Guard.none; rfl; rfl; apply Pev.idx; rfl; exact yes; rfl; exact yes; rfl; rfl; intro hcond; (simp only [Bool.and_eq_true, Bool.or_eq_true, Bool.not_eq_true', decide_eq_true_eq, decide_eq_false_iff_not] at *; omega)
          apply QL.op; exact Guard.none; rfl; rfl; apply Pev.load_keptA; rfl; exact yes; exact .head _; rfl; intro hcond; assumption; rfl; intro hcond; assumption; intro hcond; simp only [add_block]; refine NotOwned.row (by omega) ?_; refine NotOwned.row (by omega) ?_; refine NotOwned.blk (by omega) ?_; refine NotOwned.row (by omega) ?_; refine NotOwned.row (by omega) ?_; refine NotOwned.blk (by omega) ?_; exact hno _ (by omega)
          apply QL.op; exact Guard.none; rfl; rfl; apply Pev.build; rfl; exact CellsL.agg; rfl; apply Fill.cons rfl; exact CellsL.agg; rfl; rfl; apply Put.here; apply Over.cons; apply Over.cons; apply Over.cons; apply Over.cons; apply Over.nil; apply Fill.cons rfl; exact CellsL.one rfl; rfl; rfl; apply Put.skip; apply Put.skip; apply Put.skip; apply Put.skip; apply Put.here; apply Over.cons; apply Over.nil; apply Fill.nil; rfl
          apply qfa; rfl; rfl; rfl
          apply qld; rfl; rfl; apply List.Mem.tail; apply List.Mem.tail; apply List.Mem.tail; exact .tail _ (.tail _ (.head _)); rfl; rfl
          apply QL.op; exact Guard.none; rfl; rfl; apply Pev.idx; rfl; exact yes; rfl; exact yes; rfl; rfl; intro hcond; (simp only [Bool.and_eq_true, Bool.or_eq_true, Bool.not_eq_true', decide_eq_true_eq, decide_eq_false_iff_not] at *; omega)
          apply QL.op; exact Guard.none; rfl; rfl; apply Pev.load_keptA; rfl; exact yes; exact .head _; rfl; intro hcond; assumption; rfl; intro hcond; assumption; intro hcond; simp only [add_block]; refine NotOwned.row (by omega) ?_; refine NotOwned.row (by omega) ?_; refine NotOwned.blk (by omega) ?_; refine NotOwned.row (by omega) ?_; refine NotOwned.row (by omega) ?_; refine NotOwned.blk (by omega) ?_; exact hno _ (by omega)
          apply QL.op; exact Guard.none; rfl; rfl; apply Pev.build; rfl; exact CellsL.agg; rfl; apply Fill.cons rfl; exact CellsL.agg; rfl; rfl; apply Put.here; apply Over.cons; apply Over.cons; apply Over.cons; apply Over.cons; apply Over.nil; apply Fill.cons rfl; exact CellsL.one rfl; rfl; rfl; apply Put.skip; apply Put.skip; apply Put.skip; apply Put.skip; apply Put.here; apply Over.cons; apply Over.nil; apply Fill.nil; rfl
          with_reducible apply QL.tail
          apply OL.buildSlice; rfl; rfl; rfl; apply Elems.cons rfl; exact CellsL.agg; rfl; apply Elems.cons rfl; exact CellsL.agg; rfl; apply Elems.cons rfl; exact CellsL.agg; rfl; apply Elems.nil; apply App.cons; apply App.cons; apply App.cons; apply App.cons; apply App.cons; apply App.nil; apply App.cons; apply App.cons; apply App.cons; apply App.cons; apply App.cons; apply App.nil; apply App.cons; apply App.cons; apply App.cons; apply App.cons; apply App.cons; apply App.nil; rfl; rfl; (intro bk hbk; simp only [AllLe, and_true] at hbk)
          apply oas; rfl; rfl
          apply OL.nil
          with_reducible apply At.in_normal
          have hn3 := hinv.three
          refine At.joinedx ⟨[⟨p0, 0⟩, ⟨p1, 2⟩, ⟨p2, 0⟩], ⟨fun k => k = bk, some ⟨bk, 0, none⟩, 3⟩, []⟩ ⟨fun_parts hinv, fun x hx => ?_, Late.nil, (show 3 ≤ 4096 by decide), by omega⟩ (by (repeat (first | exact Sub.nil | apply Sub.cons rfl | (refine Sub.cons_eq rfl (congrArg (Value.int .i64) (by first | omega | (simp only; omega))) ?_)))) (fun w' hw' => hw'.blk_row hbk.2.1 rfl (show 3 ≤ maxLen by decide))
          rcases mem3 hx with rfl | rfl | rfl
          · exact good (i := 0) hwf hpty rfl (by omega) ⟨by omega, by omega, by omega⟩
          · exact good (i := 1) hwf hpty rfl (by omega) ⟨by omega, by omega, by omega⟩
          · exact good (i := 2) hwf hpty rfl (by omega) ⟨by omega, by omega, by omega⟩
        · apply W.seq
          apply W.reg
          apply obn; rfl; rfl; rfl; apply Bin.eql
          apply oas; rfl; rfl
          apply OL.nil
          with_reducible apply At.next
          (refine W.cond rfl (fun h3 => ?_) (fun h3 => ?_)) <;> (try (simp only [Bool.and_eq_true, Bool.or_eq_true, Bool.not_eq_true', Bool.and_eq_false_iff, Bool.or_eq_false_iff, Bool.not_eq_false', decide_eq_true_eq, decide_eq_false_iff_not, Int.not_lt, Int.not_le] at h3)) <;> (try (exfalso; first | omega | exact h3 trivial | contradiction))
          · subst h3
            have hl1 : ps.length = 1 := by simp [manyOf] at hmany; omega
            obtain ⟨p0, rfl⟩ := list1 hl1
            obtain ⟨a, rfl, ⟨hab, hab2⟩, hc0⟩ := hce (i := 0) rfl
            clear hce
            apply W.reg
            apply ofa; rfl; rfl; rfl
            apply old; rfl; rfl; apply List.Mem.tail; apply List.Mem.tail; apply List.Mem.tail; exact .tail _ (.tail _ (.head _)); rfl; rfl
            apply OL.op; exact Guard.none; rfl; rfl; apply Pev.idx; rfl; exact yes; rfl; exact yes; rfl; rfl; intro hcond; (simp only [Bool.and_eq_true, Bool.or_eq_true, Bool.not_eq_true', decide_eq_true_eq, decide_eq_false_iff_not] at *; omega)
            apply OL.op; exact Guard.none; rfl; rfl; apply Pev.load_keptA; rfl; exact yes; exact .head _; rfl; intro hcond; assumption; rfl; intro hcond; assumption; intro hcond; simp only [add_block]; refine NotOwned.row (by omega) ?_; refine NotOwned.row (by omega) ?_; refine NotOwned.blk (by omega) ?_; refine NotOwned.row (by omega) ?_; refine NotOwned.row (by omega) ?_; refine NotOwned.blk (by omega) ?_; exact hno _ (by omega)
            apply OL.op; exact Guard.none; rfl; rfl; apply Pev.build; rfl; exact CellsL.agg; rfl; apply Fill.cons rfl; exact CellsL.agg; rfl; rfl; apply Put.here; apply Over.cons; apply Over.cons; apply Over.cons; apply Over.cons; apply Over.nil; apply Fill.cons rfl; exact CellsL.one rfl; rfl; rfl; apply Put.skip; apply Put.skip; apply Put.skip; apply Put.skip; apply Put.here; apply Over.cons; apply Over.nil; apply Fill.nil; rfl
            apply OL.buildSlice; rfl; rfl; rfl; apply Elems.cons rfl; exact CellsL.agg; rfl; apply Elems.nil; apply App.cons; apply App.cons; apply App.cons; apply App.cons; apply App.cons; apply App.nil; rfl; rfl; (intro bk hbk; simp only [AllLe, and_true] at hbk)
            apply oas; rfl; rfl
            apply OL.nil
            with_reducible apply At.in_normal
            have hn3 := hinv.three
            refine At.joinedx ⟨[⟨p0, 1⟩], ⟨fun k => k = bk, some ⟨bk, 0, none⟩, 1⟩, []⟩ ⟨rec_parts hinv, fun x hx => ?_, Late.nil, (show 1 ≤ 4096 by decide), by omega⟩ (by (repeat (first | exact Sub.nil | apply Sub.cons rfl | (refine Sub.cons_eq rfl (congrArg (Value.int .i64) (by first | omega | (simp only; omega))) ?_)))) (fun w' hw' => hw'.blk_row hbk.2.1 rfl (show 1 ≤ maxLen by decide))
            obtain rfl := List.mem_singleton.1 hx
            exact good (i := 0) hwf hpty rfl (by omega) ⟨by omega, by omega, by omega⟩
          · apply W.seq
            apply W.reg
            apply obn; rfl; rfl; rfl; apply Bin.eql
            apply oas; rfl; rfl
            apply OL.nil
            with_reducible apply At.next
            (refine W.cond rfl (fun h5 => ?_) (fun h5 => ?_)) <;> (try (simp only [Bool.and_eq_true, Bool.or_eq_true, Bool.not_eq_true', Bool.and_eq_false_iff, Bool.or_eq_false_iff, Bool.not_eq_false', decide_eq_true_eq, decide_eq_false_iff_not, Int.not_lt, Int.not_le] at h5)) <;> (try (exfalso; first | omega | exact h5 trivial | contradiction))
            · subst h5
              have hl2 : ps.length = 2 := by simp [manyOf] at hmany; omega
              obtain ⟨p0, p1, rfl⟩ := list2 hl2
              obtain ⟨a, rfl, ⟨hab, hab2⟩, hc0⟩ := hce (i := 0) rfl
              obtain ⟨a', e1, _, hc1⟩ := hce (i := 1) rfl
              obtain rfl := Option.some.inj e1
              clear hce
              apply W.regq; apply Split.s rfl; apply Split.s rfl; apply Split.s rfl; apply Split.s rfl; apply Split.s rfl; apply Split.s rfl; apply Split.s rfl; apply Split.s rfl; apply Split.s rfl; apply Split.s rfl; apply Split.s rfl; exact Split.z rfl; kernel_rfl; decide +kernel; exact fun w hw => hw.drew
              apply qfa; rfl; rfl; rfl
              apply qld; rfl; rfl; apply List.Mem.tail; apply List.Mem.tail; apply List.Mem.tail; exact .tail _ (.tail _ (.head _)); rfl; rfl
              apply QL.op; exact Guard.none; rfl; rfl; apply Pev.idx; rfl; exact yes; rfl; exact yes; rfl; rfl; intro hcond; (simp only [Bool.and_eq_true, Bool.or_eq_true, Bool.not_eq_true', decide_eq_true_eq, decide_eq_false_iff_not] at *; omega)
              apply QL.op; exact Guard.none; rfl; rfl; apply Pev.load_keptA; rfl; exact yes; exact .head _; rfl; intro hcond; assumption; rfl; intro hcond; assumption; intro hcond; simp only [add_block]; refine NotOwned.row (by omega) ?_; refine NotOwned.row (by omega) ?_; refine NotOwned.blk (by omega) ?_; refine NotOwned.row (by omega) ?_; refine NotOwned.row (by omega) ?_; refine NotOwned.blk (by omega) ?_; exact hno _ (by omega)
              apply QL.op; exact Guard.none; rfl; rfl; apply Pev.build; rfl; exact CellsL.agg; rfl; apply Fill.cons rfl; exact CellsL.agg; rfl; rfl; apply Put.here; apply Over.cons; apply Over.cons; apply Over.cons; apply Over.cons; apply Over.nil; apply Fill.cons rfl; exact CellsL.one rfl; rfl; rfl; apply Put.skip; apply Put.skip; apply Put.skip; apply Put.skip; apply Put.here; apply Over.cons; apply Over.nil; apply Fill.nil; rfl
              apply qfa; rfl; rfl; rfl
              apply qld; rfl; rfl; apply List.Mem.tail; apply List.Mem.tail; apply List.Mem.tail; exact .tail _ (.tail _ (.head _)); rfl; rfl
              apply QL.op; exact Guard.none; rfl; rfl; apply Pev.idx; rfl; exact yes; rfl; exact yes; rfl; rfl; intro hcond; (simp only [Bool.and_eq_true, Bool.or_eq_true, Bool.not_eq_true', decide_eq_true_eq, decide_eq_false_iff_not] at *; omega)
              apply QL.op; exact Guard.none; rfl; rfl; apply Pev.load_keptA; rfl; exact yes; exact .head _; rfl; intro hcond; assumption; rfl; intro hcond; assumption; intro hcond; simp only [add_block]; refine NotOwned.row (by omega) ?_; refine NotOwned.row (by omega) ?_; refine NotOwned.blk (by omega) ?_; refine NotOwned.row (by omega) ?_; refine NotOwned.row (by omega) ?_; refine NotOwned.blk (by omega) ?_; exact hno _ (by omega)
              apply qmv; rfl; rfl
              apply QL.op; exact Guard.none; rfl; rfl; apply Pev.build; rfl; exact CellsL.agg; rfl; apply Fill.cons rfl; exact CellsL.agg; rfl; rfl; apply Put.here; apply Over.cons; apply Over.cons; apply Over.cons; apply Over.cons; apply Over.nil; apply Fill.cons rfl; exact CellsL.one rfl; rfl; rfl; apply Put.skip; apply Put.skip; apply Put.skip; apply Put.skip; apply Put.here; apply Over.cons; apply Over.nil; apply Fill.nil; rfl
              with_reducible apply QL.tail
              apply OL.buildSlice; rfl; rfl; rfl; apply Elems.cons rfl; exact CellsL.agg; rfl; apply Elems.cons rfl; exact CellsL.agg; rfl; apply Elems.nil; apply App.cons; apply App.cons; apply App.cons; apply App.cons; apply App.cons; apply App.nil; apply App.cons; apply App.cons; apply App.cons; apply App.cons; apply App.cons; apply App.nil; rfl; rfl; (intro bk hbk; simp only [AllLe, and_true] at hbk)
              apply oas; rfl; rfl
              apply OL.nil
              with_reducible apply At.in_normal
              have hn3 := hinv.three
              refine At.joinedx ⟨[⟨p0, 0⟩, ⟨p1, slot⟩], ⟨fun k => k = bk, some ⟨bk, 0, none⟩, 2⟩, []⟩ ⟨ext_parts hinv, fun x hx => ?_, Late.nil, (show 2 ≤ 4096 by decide), by omega⟩ (by (repeat (first | exact Sub.nil | apply Sub.cons rfl | (refine Sub.cons_eq rfl (congrArg (Value.int .i64) (by first | omega | (simp only; omega))) ?_)))) (fun w' hw' => hw'.blk_row hbk.2.1 rfl (show 2 ≤ maxLen by decide))
              rcases mem2 hx with rfl | rfl
              · exact good (i := 0) hwf hpty rfl (by omega) ⟨by omega, by omega, by omega⟩
              · exact good (i := 1) hwf hpty rfl (by omega) ⟨by omega, by omega, by omega⟩
            · have h4 : k = 4 := by omega
              subst h4
              apply W.skip
              with_reducible apply At.in_normal
              exact At.joinedx ⟨[], gp0, []⟩ ⟨empty_parts, fun x hx => (by cases hx), Late.nil, by decide, by omega⟩ (by (repeat (first | exact Sub.nil | apply Sub.cons rfl | (refine Sub.cons_eq rfl (congrArg (Value.int .i64) (by first | omega | (simp only; omega))) ?_)))) (fun w' hw' => hw'.row_nil w.heap.size _ 5)
  · rintro ⟨l, ⟨Og, qg, cg⟩, A⟩ ⟨hP, hG, hA, hl, hk0⟩
    simp only at hP hG hA hl ⊢
    have hnoA : ∀ k, k < B' → NotOwned (A ++ H) k := fun k hk => hA.no (by omega) (hno k hk)
    clear hpar
    obtain ⟨b2, hb2⟩ := row_some (hc'.item (.tail _ (.head _))) (show 0 < n by have := hinv.three; omega)
    subst hb2
    refine W.cls (C' := Cls (row B' P1 q1 n c1 3 1 (nts σ.up) :: row B' P2 (some ⟨b2, 0, none⟩) n c2 3 1 (ins σ.kind) :: blk bs 64 [k1, k2, k3, .slice q1 n c1, .slice (some ⟨b2, 0, none⟩) n c2] :: row B' Of qf fi.length cf 3 1 (nts fi) :: row B' Ov qv vs.length cv 3 1 (nts vs) :: row w.heap.size Og qg l.length cg 77 5 (cat ptc l) :: blk bt 24 [.int .i64 k, .string nm, .int .i64 v, .slice q ps.length cap] :: (A ++ H)) (s0 :: w :: S)) (fun w' hw' => Cls.mid (A := [_]) (I := [_, _, _, _, _]) hw') ?_
    have hlA : Late w.heap.size (row w.heap.size Og qg l.length cg 77 5 (cat ptc l) :: blk bt 24 [.int .i64 k, .string nm, .int .i64 v, .slice q ps.length cap] :: A) := Late.cons hrowL (fun i hi x hx => by
      cases hi with
      | head => have hx' : x = bt := hx; omega
      | tail _ hi => exact hA i hi x hx)
    apply W.seq
    apply W.seq
    apply W.reg
    apply ofa; rfl; rfl; rfl
    apply old; rfl; rfl; apply List.Mem.tail; apply List.Mem.tail; apply List.Mem.tail; apply List.Mem.tail; exact .tail _ (.tail _ (.head _)); rfl; rfl
    apply obn; rfl; rfl; rfl; apply Bin.leq
    apply OL.nil
    with_reducible apply At.next
    refine W.joinx (G := Sol) (fun σ1 => LeftW (Cond (.mk k nm v (ps.map Pa.t)) slot) (pkF kn ds fi) vs σ (.mk k nm v (ps.map Pa.t)) slot l σ1)
      (fun _ => [(0, true, .pointer (some ⟨bs, 0, none⟩)), (3, true, .slice qv vs.length cv), (9, true, .slice qg l.length cg)])
      (fun σ1 => Cls (row B' P1 q1 n c1 3 1 (nts σ1.up) :: row B' P2 (some ⟨b2, 0, none⟩) n c2 3 1 (ins σ1.kind) :: blk bs 64 [k1, k2, k3, .slice q1 n c1, .slice (some ⟨b2, 0, none⟩) n c2] :: row B' Of qf fi.length cf 3 1 (nts fi) :: row B' Ov qv vs.length cv 3 1 (nts vs) :: row w.heap.size Og qg l.length cg 77 5 (cat ptc l) :: blk bt 24 [.int .i64 k, .string nm, .int .i64 v, .slice q ps.length cap] :: (A ++ H)) (s0 :: w :: S)) ?_ ?_
    · (refine W.cond rfl (fun h3 => ?_) (fun h3 => ?_)) <;> (try (simp only [Bool.and_eq_true, Bool.or_eq_true, Bool.not_eq_true', Bool.and_eq_false_iff, Bool.or_eq_false_iff, Bool.not_eq_false', decide_eq_true_eq, decide_eq_false_iff_not, Int.not_lt, Int.not_le] at h3)) <;> (try (exfalso; first | omega | exact h3 trivial | contradiction))
      · apply W.seq
        apply W.reg
        apply omv; rfl; rfl
        apply omv; rfl; rfl
        refine OL.callE (α := Int × Sol) (fun x => .int .i64 x.1) (fun g => Joined σ slot 0 g.1 g.2) (fun g => Cls (row B' P1 q1 n c1 3 1 (nts g.2.up) :: row B' P2 (some ⟨b2, 0, none⟩) n c2 3 1 (ins g.2.kind) :: blk bs 64 [k1, k2, k3, .slice q1 n c1, .slice (some ⟨b2, 0, none⟩) n c2] :: row B' Of qf fi.length cf 3 1 (nts fi) :: row B' Ov qv vs.length cv 3 1 (nts vs) :: row w.heap.size Og qg l.length cg 77 5 (cat ptc l) :: blk bt 24 [.int .i64 k, .string nm, .int .i64 v, .slice q ps.length cap] :: (A ++ H)) (s0 :: w :: S)) rfl rfl (by (repeat (first | exact Args.nil | (apply Args.cons rfl; ((first | exact fun _ => rfl | exact fun h => h | (intro h; simp_all; done))))))) (fun w2 hw2 => (hjoin σ _ _ w2 hn hinv hw2 slot 0 hsl (by have := hinv.three; omega)).mono fun e w3 ⟨er, σ2, h1, h2, h3⟩ => ⟨(er, σ2), h1, h2, h3⟩) ?_
        rintro ⟨er, σ1⟩ hj
        simp only at hj ⊢
        apply oas; rfl; rfl
        apply OL.nil
        with_reducible apply At.next
        apply W.seq
        apply W.reg
        apply omv; rfl; rfl
        apply obn; rfl; rfl; rfl; apply Bin.neq
        apply OL.nil
        with_reducible apply At.next
        (refine W.cond rfl (fun he => ?_) (fun he => ?_)) <;> (try (simp only [Bool.and_eq_true, Bool.or_eq_true, Bool.not_eq_true', Bool.and_eq_false_iff, Bool.or_eq_false_iff, Bool.not_eq_false', decide_eq_true_eq, decide_eq_false_iff_not, Int.not_lt, Int.not_le] at he)) <;> (try (exfalso; first | omega | exact he trivial | contradiction))
        · apply W.seq
          apply W.reg
          apply omv; rfl; rfl
          apply oas; rfl; rfl
          apply OL.nil
          with_reducible apply At.next
          apply W.ret
          with_reducible apply At.then_ret
          ((with_reducible apply At.fin1); rfl; rfl; intro w' hw')
          exact ⟨er, σ1, rfl, hP.lowbad hinv h3 hj he, hend σ1 _ _ hlA hw'⟩
        · subst he
          apply W.skip
          exact At.joinedx σ1 (hP.low hinv h3 hj) (by (repeat (first | exact Sub.nil | apply Sub.cons rfl | (refine Sub.cons_eq rfl (congrArg (Value.int .i64) (by first | omega | (simp only; omega))) ?_)))) (fun w' hw' => hw')
      · have hnk : ¬ (Ty.mk k nm v (ps.map Pa.t)).kind ≤ 3 := show ¬ k ≤ 3 by omega
        have hs12 : Cond (.mk k nm v (ps.map Pa.t)) slot → slot = 1 ∨ slot = 2 := fun hC => cond_slot (by omega) hC
        obtain ⟨d, r, hr⟩ := hinv.rt slot (by omega)
        obtain ⟨kv, hkv⟩ := hinv.kind hr
        have hsame : Cond (.mk k nm v (ps.map Pa.t)) slot → kv = slot := fun hC => by
          obtain ⟨d', r', hr', hk'⟩ := hinv.base slot (by have := hs12 hC; omega)
          obtain rfl := hr.uniq hr'
          rw [hkv] at hk'
          exact Option.some.inj hk'
        have hcr := ins_get hkv
        have hrl := hr.lt.2
        apply W.seq
        apply W.reg
        apply omv; rfl; rfl
        apply omv; rfl; rfl
        (((first | (with_reducible apply OL.op) | (with_reducible apply QL.op)); ((first | exact Guard.none | exact Guard.yes rfl rfl | exact Guard.no rfl rfl | exact Guard.cyes rfl rfl | exact Guard.cno rfl rfl)); rfl; rfl); (exact Pev.call rfl (by (repeat (first | exact Args.nil | (apply Args.cons rfl; ((first | exact fun _ => rfl | exact fun h => h | (intro h; simp_all; done))))))) (fun _ w2 hw2 => hroot σ _ _ w2 hn hw2 d slot r hr)))
        apply oas; rfl; rfl
        apply OL.nil
        with_reducible apply At.next
        apply W.seq
        apply W.reg
        apply omv; rfl; rfl
        apply OL.op; exact Guard.none; rfl; rfl; apply Pev.nil_ptr; rfl; exact yes
        apply ofa; rfl; rfl; rfl
        apply old; rfl; rfl; exact .tail _ (.tail _ (.head _)); rfl; rfl
        apply omv; rfl; rfl
        apply OL.op; exact Guard.none; rfl; rfl; apply Pev.idxB; rfl; exact yes; rfl; exact yes; rfl; intro hcond; omega; rfl
        apply OL.op; exact Guard.none; rfl; rfl; apply Pev.load_row; rfl; exact yes; exact .tail _ (.head _); rfl; assumption
        apply obn; rfl; rfl; rfl; apply Bin.eql
        apply OL.nil
        with_reducible apply At.next
        (refine W.cond rfl (fun he => ?_) (fun he => ?_)) <;> (try (simp only [Bool.and_eq_true, Bool.or_eq_true, Bool.not_eq_true', Bool.and_eq_false_iff, Bool.or_eq_false_iff, Bool.not_eq_false', decide_eq_true_eq, decide_eq_false_iff_not, Int.not_lt, Int.not_le] at he)) <;> (try (exfalso; first | omega | exact he trivial | contradiction))
        · apply W.seq
          apply W.reg
          apply oas; rfl; rfl
          apply OL.nil
          with_reducible apply At.next
          apply W.ret
          with_reducible apply At.then_ret
          ((with_reducible apply At.fin1); rfl; rfl; intro w' hw')
          exact ⟨9, σ, rfl, .off hinv rfl (fun hC => by have := hs12 hC; have := hsame hC; omega), hend σ _ _ hlA hw'⟩
        apply W.seq
        apply W.reg
        apply omv; rfl; rfl
        apply OL.op; exact Guard.none; rfl; rfl; apply Pev.nil_ptr; rfl; exact yes
        apply ofa; rfl; rfl; rfl
        apply old; rfl; rfl; exact .tail _ (.tail _ (.head _)); rfl; rfl
        apply omv; rfl; rfl
        apply OL.op; exact Guard.none; rfl; rfl; apply Pev.idxB; rfl; exact yes; rfl; exact yes; rfl; intro hcond; omega; rfl
        apply OL.op; exact Guard.none; rfl; rfl; apply Pev.load_row; rfl; exact yes; exact .tail _ (.head _); rfl; assumption
        apply obn; rfl; rfl; rfl; apply Bin.eql
        apply OL.nil
        with_reducible apply At.next
        (refine W.cond rfl (fun he2 => ?_) (fun he2 => ?_)) <;> (try (simp only [Bool.and_eq_true, Bool.or_eq_true, Bool.not_eq_true', Bool.and_eq_false_iff, Bool.or_eq_false_iff, Bool.not_eq_false', decide_eq_true_eq, decide_eq_false_iff_not, Int.not_lt, Int.not_le] at he2)) <;> (try (exfalso; first | omega | exact he2 trivial | contradiction))
        · subst he2
          apply W.reg
          apply omv; rfl; rfl
          apply OL.op; exact Guard.none; rfl; rfl; apply Pev.nil_ptr; rfl; exact yes
          apply ofa; rfl; rfl; rfl
          apply old; rfl; rfl; exact .tail _ (.tail _ (.head _)); rfl; rfl
          apply omv; rfl; rfl
          apply OL.op; exact Guard.none; rfl; rfl; apply Pev.idxB; rfl; exact yes; rfl; exact yes; rfl; intro hcond; omega; rfl
          refine OL.storeR (xs := ins σ.kind) rfl rfl rfl rfl rfl (.s .z) (by rw [ins_length, hinv.len]; simp; omega) ?_
          rw [show 0 + (r : Int).toNat * 1 = 0 + r * 1 from rfl, ins_set]
          apply OL.nil
          exact At.joinedx (opened σ r) (.off (opened_inv hinv hkv) rfl (fun hC => by have := hs12 hC; have := hsame hC; omega)) (by (repeat (first | exact Sub.nil | apply Sub.cons rfl | (refine Sub.cons_eq rfl (congrArg (Value.int .i64) (by first | omega | (simp only; omega))) ?_)))) (fun w' hw' => hw')
        apply W.skip
        exact At.joinedx σ (hP.high hinv hnk hs12) (by (repeat (first | exact Sub.nil | apply Sub.cons rfl | (refine Sub.cons_eq rfl (congrArg (Value.int .i64) (by first | omega | (simp only; omega))) ?_)))) (fun w' hw' => hw')
    · intro σ1 hL1
      apply W.seq
      apply W.seq
      apply W.reg
      apply omv; rfl; rfl
      apply OL.op; exact Guard.none; rfl; rfl; apply Pev.len_slice; rfl; exact yes; rfl
      apply omv; rfl; rfl
      apply OL.nil
      with_reducible apply At.next
      apply W.block
      refine W.loop (G := Nat × Sol) (fun g => g.1 ≤ l.length ∧ LeftW (Cond (.mk k nm v (ps.map Pa.t)) slot) (pkF kn ds fi) vs σ (.mk k nm v (ps.map Pa.t)) slot (l.drop g.1) g.2) (fun g => l.length - g.1)
        (fun g => [(0, true, .pointer (some ⟨bs, 0, none⟩)), (3, true, .slice qv vs.length cv), (145, true, .slice qg l.length cg), (146, true, .int .i64 (l.length : Int)), (147, true, .int .i64 (g.1 : Int))])
        (fun g => Cls (row B' P1 q1 n c1 3 1 (nts g.2.up) :: row B' P2 (some ⟨b2, 0, none⟩) n c2 3 1 (ins g.2.kind) :: blk bs 64 [k1, k2, k3, .slice q1 n c1, .slice (some ⟨b2, 0, none⟩) n c2] :: row B' Of qf fi.length cf 3 1 (nts fi) :: row B' Ov qv vs.length cv 3 1 (nts vs) :: row w.heap.size Og qg l.length cg 77 5 (cat ptc l) :: blk bt 24 [.int .i64 k, .string nm, .int .i64 v, .slice q ps.length cap] :: (A ++ H)) (s0 :: w :: S)) (0, σ1) ⟨by simp, hL1⟩ (by (repeat (first | exact Sub.nil | apply Sub.cons rfl | (refine Sub.cons_eq rfl (congrArg (Value.int .i64) (by first | omega | (simp only; omega))) ?_)))) (fun w' hw' => hw') ?_
      rintro ⟨i, σ2⟩ ⟨hi, hL⟩
      simp only at hi hL ⊢
      apply W.seq
      apply W.reg
      apply obn; rfl; rfl; rfl; apply Bin.lss
      apply OL.nil
      with_reducible apply At.next
      apply W.seq
      (refine W.cond rfl (fun hlt => ?_) (fun hlt => ?_)) <;> (try (simp only [Bool.and_eq_true, Bool.or_eq_true, Bool.not_eq_true', Bool.and_eq_false_iff, Bool.or_eq_false_iff, Bool.not_eq_false', decide_eq_true_eq, decide_eq_false_iff_not, Int.not_lt, Int.not_le] at hlt)) <;> (try (exfalso; first | omega | exact hlt trivial | contradiction))
      · have hil : i < l.length := by omega
        obtain ⟨x, hx⟩ : ∃ x, l[i]? = some x := ⟨_, List.getElem?_eq_getElem hil⟩
        have hdr : l.drop i = x :: l.drop (i + 1) := by
          obtain ⟨h1, rfl⟩ := List.getElem?_eq_some_iff.1 hx
          exact List.drop_eq_getElem_cons h1
        rw [hdr] at hL
        have hGx := hG x (List.mem_of_getElem? hx)
        refine W.fact (fun w2 hw2 => row_some (hw2.item (.tail _ (.tail _ (.tail _ (.tail _ (.tail _ (.head _))))))) (show 0 < l.length by omega)) ?_
        rintro ⟨gb, rfl⟩
        apply W.skip
        with_reducible apply At.next
        apply W.seq
        apply W.block
        apply W.seq
        apply W.reg
        apply OL.op; exact Guard.none; rfl; rfl; apply Pev.idxB; rfl; exact yes; rfl; exact yes; rfl; intro hcond; omega; rfl
        apply OL.op; exact Guard.none; rfl; rfl; apply Pev.load_rowE; rfl; exact yes; apply List.Mem.tail; apply List.Mem.tail; apply List.Mem.tail; exact .tail _ (.tail _ (.head _)); rfl; exact fun _ => rfl; (intro hcond; assumption); (intro hcond; omega)
        apply OL.alloc; rfl; rfl; exact CellsL.agg; (intro bk hbk; simp only [AllLe, and_true] at hbk)
        apply OL.storeB; rfl; rfl; exact CellsL.agg; rfl; rfl; rfl; apply Swap.z; apply Put.here; apply Over.cons; apply Over.cons; apply Over.cons; apply Over.cons; apply Over.cons; apply Over.nil
        apply OL.nil
        with_reducible apply At.next
        apply W.seq
        apply W.reg
        apply omv; rfl; rfl
        apply ofa; rfl; rfl; rfl
        apply OL.op; exact Guard.none; rfl; rfl; apply Pev.load_blkA; rfl; exact yes; exact .head _; rfl; apply Take.succ; apply Take.succ; apply Take.succ; apply Take.succ; apply Take.zero
        apply ofa; rfl; rfl; rfl
        apply old; rfl; rfl; exact .head _; rfl; rfl
        apply omv; rfl; rfl
        refine OL.callE (α := Int × Sol) (fun x => .int .i64 x.1) (fun g => Wanted (Cond x.p.t x.slot) (pkF kn ds fi) vs σ2 x.p.t x.slot g.1 g.2) (fun g => Cls (row B' P1 q1 n c1 3 1 (nts g.2.up) :: row B' P2 (some ⟨b2, 0, none⟩) n c2 3 1 (ins g.2.kind) :: blk bs 64 [k1, k2, k3, .slice q1 n c1, .slice (some ⟨b2, 0, none⟩) n c2] :: row B' Of qf fi.length cf 3 1 (nts fi) :: row B' Ov qv vs.length cv 3 1 (nts vs) :: row w.heap.size Og (some ⟨gb, 0, none⟩) l.length cg 77 5 (cat ptc l) :: blk bt 24 [.int .i64 k, .string nm, .int .i64 v, .slice q ps.length cap] :: (A ++ H)) (s0 :: w :: S)) rfl rfl (by (repeat (first | exact Args.nil | (apply Args.cons rfl; ((first | exact fun _ => rfl | exact fun h => h | (intro h; simp_all; done))))))) (fun w2 hw2 => (ih x.p x.slot σ2 (row w.heap.size Og (some ⟨gb, 0, none⟩) l.length cg 77 5 (cat ptc l) :: blk bt 24 [.int .i64 k, .string nm, .int .i64 v, .slice q ps.length cap] :: (A ++ H)) (w :: S) w2 (by have := hGx.lt; omega) hGx.ty hGx.wg hGx.sl hL.inv (hL.len.trans hn) (fun k hk => by have hno := hnoA; (focus ((try simp only [add_block]); (repeat (first | exact NotOwned.nil | exact hno _ (by omega) | refine NotOwned.nothing ?_ | refine NotOwned.nds (hlow _ (by omega)) ?_ | refine NotOwned.mapS (by omega) ?_ | apply NotOwned.bif | refine NotOwned.blk (by omega) ?_ | refine NotOwned.row (by omega) ?_ | refine NotOwned.grid (by assumption) (by omega) ?_ | refine NotOwned.pile (by omega) ?_)); done))) (hw2.thin (by (repeat (first | exact Thin.nil | exact Thin.same | apply Thin.keep | (refine Thin.blk (by assumption) ?_) | (refine Thin.blk (by simp only [AllLe, and_true]; omega) ?_)))))).mono fun e w3 ⟨er, σ2, h1, h2, h3⟩ => ⟨(er, σ2), h1, h2, h3⟩) ?_
        rintro ⟨er, σ3⟩ hW
        simp only at hW ⊢
        apply oas; rfl; rfl
        apply OL.nil
        with_reducible apply At.next
        apply W.seq
        apply W.reg
        apply omv; rfl; rfl
        apply obn; rfl; rfl; rfl; apply Bin.neq
        apply OL.nil
        with_reducible apply At.next
        (refine W.cond rfl (fun he => ?_) (fun he => ?_)) <;> (try (simp only [Bool.and_eq_true, Bool.or_eq_true, Bool.not_eq_true', Bool.and_eq_false_iff, Bool.or_eq_false_iff, Bool.not_eq_false', decide_eq_true_eq, decide_eq_false_iff_not, Int.not_lt, Int.not_le] at he)) <;> (try (exfalso; first | omega | exact he trivial | contradiction))
        · apply W.seq
          apply W.reg
          apply omv; rfl; rfl
          apply oas; rfl; rfl
          apply OL.nil
          with_reducible apply At.next
          apply W.ret
          with_reducible apply At.in_ret
          with_reducible apply At.then_ret
          with_reducible apply At.then_ret
          with_reducible apply At.in_ret
          with_reducible apply At.then_ret
          ((with_reducible apply At.fin1); rfl; rfl; intro w' hw')
          exact ⟨er, σ3, rfl, hL.bad hGx.cd hW he, hend σ3 _ _ hlA hw'⟩
        · subst he
          apply W.skip
          with_reducible apply At.in_normal
          with_reducible apply At.next
          apply W.reg
          apply obn; rfl; rfl; rfl; apply Bin.add_in; omega
          apply omv; rfl; rfl
          apply OL.nil
          exact At.again (i + 1, σ3) ⟨by simp only; omega, hL.next hGx.cd hW⟩ (by simp only; omega) (by (repeat (first | exact Sub.nil | apply Sub.cons rfl | (refine Sub.cons_eq rfl (congrArg (Value.int .i64) (by first | omega | (simp only; omega))) ?_)))) (fun w' hw' => hw')
      · have hie : i = l.length := by omega
        subst hie
        rw [List.drop_length] at hL
        apply W.exit
        with_reducible apply At.then_exit
        with_reducible apply At.then_exit
        with_reducible apply At.in_exit
        with_reducible apply At.next
        apply W.seq
        apply W.reg
        apply oas; rfl; rfl
        apply OL.nil
        with_reducible apply At.next
        apply W.ret
        ((with_reducible apply At.fin1); rfl; rfl; intro w' hw')
        exact ⟨0, σ2, rfl, hL.nil, hend σ2 _ _ hlA hw'⟩
end Go.Proofs.YtaponemcbnnebaaDoor.ki
