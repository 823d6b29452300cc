/- Texts of the proof of UsageSays, part 5: rules of a calculus for walking, plain laws, and walks of the functions that the law reaches. No condition. -/
import Derived.Laws.StructEq
import Derived.SizedLaws
import Derived.Test.YtlboppiogeaicaaDoorProg
import Derived.Test.YtlboppiogeaicaaDoorUsageSays4
/- The reference's small builder of expressions: nodes in memory, and their list. Conditions: none. (Printed by nt.py.) -/
namespace Go.Eng
variable {α μ : Type} {R : Rel α μ} {O : Nat → Prop} {l : List (α × μ)}
/-- what another item owns comes to the finished things, with a thing that lies there -/
theorem Cls.pool_take {B : Nat} {j : Item} {H : List Item} {S : List World} {w : World} {x : α} {y : μ} (h : Cls (j :: pool R B O l :: H) S w) (hj : ∀ k, j.own k → B ≤ k) (hx : R.ok w (fun k => B ≤ k ∧ (O k ∨ j.own k)) x y) :
    Cls (pool R B (fun k => O k ∨ j.own k) (l ++ [(x, y)]) :: H) S w := by
  have hd := List.pairwise_cons.1 h.dj
  have hd2 := List.pairwise_cons.1 hd.2
  have hp := h.holds _ (.tail _ (.head _))
  refine ⟨fun i hi => ?_, fun i hi k hk => ?_, List.pairwise_cons.2 ⟨fun i hi k hk hik => ?_, hd2.2⟩, fun s hs => (h.kp s hs).mono ?_⟩
  · rcases List.mem_cons.1 hi with rfl | hi
    · intro z hz
      rcases List.mem_append.1 hz with hz | hz
      · exact R.mono (fun k hk => ⟨hk.1, .inl hk.2⟩) (hp z hz)
      · obtain rfl := List.mem_singleton.1 hz
        exact hx
    · exact h.holds i (.tail _ (.tail _ hi))
  · rcases List.mem_cons.1 hi with rfl | hi
    · obtain ⟨h0, h1⟩ : B ≤ k ∧ (O k ∨ j.own k) := hk
      rcases h1 with h1 | h1
      · exact h.lt _ (.tail _ (.head _)) k ⟨h0, h1⟩
      · exact h.lt _ (.head _) k h1
    · exact h.lt i (.tail _ (.tail _ hi)) k hk
  · obtain ⟨h0, h1⟩ : B ≤ k ∧ (O k ∨ j.own k) := hk
    rcases h1 with h1 | h1
    · exact hd2.1 i hi k ⟨h0, h1⟩ hik
    · exact hd.1 i (.tail _ hi) k h1 hik
  · rintro k _ ⟨i, hi, hk⟩
    rcases List.mem_cons.1 hi with rfl | hi
    · exact ⟨_, .head _, hj k hk, .inr hk⟩
    · rcases List.mem_cons.1 hi with rfl | hi
      · exact ⟨_, .head _, hk.1, .inl hk.2⟩
      · exact ⟨i, .tail _ hi, hk⟩
end Go.Eng
namespace Go.Co
open Go.Eng Go.RowKit
set_option linter.unusedVariables false
set_option linter.unusedSimpArgs false
/-! ### a tree as a list -/
mutual
def lay : Tr → Nat → List Ex
  | .mk op n binds kids alts, s => lays kids s ++ [⟨op, n, binds, roots kids s, alts⟩]
def lays : List Tr → Nat → List Ex
  | [], _ => []
  | t :: r, s => lay t s ++ lays r (s + tsz t)
def roots : List Tr → Nat → List Int
  | [], _ => []
  | t :: r, s => (((s + tsz t : Nat) : Int) - 1) :: roots r (s + tsz t)
end
mutual
theorem lay_len : ∀ (t : Tr) (s : Nat), (lay t s).length = tsz t
  | .mk op n binds kids alts, s => by simp only [lay, tsz, List.length_append, List.length_singleton, lays_len kids s]
theorem lays_len : ∀ (ts : List Tr) (s : Nat), (lays ts s).length = tszs ts
  | [], _ => rfl
  | t :: r, s => by simp only [lays, tszs, List.length_append, lay_len t s, lays_len r _]
end
theorem lays_take : ∀ {ts : List Tr} {j s : Nat} {t : Tr}, ts[j]? = some t → lays (ts.take (j + 1)) s = lays (ts.take j) s ++ lay t (s + tszs (ts.take j))
  | [], _, _, _, h => by simp at h
  | u :: r, 0, s, t, h => by
    simp at h; subst h
    simp [lays, tszs]
  | u :: r, j + 1, s, t, h => by
    have ih := lays_take (ts := r) (j := j) (s := s + tsz u) (t := t) (by simpa using h)
    simp only [List.take_succ_cons, lays, tszs, ih, List.append_assoc, Nat.add_assoc]
theorem roots_take : ∀ {ts : List Tr} {j s : Nat} {t : Tr}, ts[j]? = some t → roots (ts.take (j + 1)) s = roots (ts.take j) s ++ [((s + tszs (ts.take j) + tsz t : Nat) : Int) - 1]
  | [], _, _, _, h => by simp at h
  | u :: r, 0, s, t, h => by
    simp at h; subst h
    simp only [List.take_succ_cons, List.take_zero, roots, tszs, Nat.add_zero, List.nil_append]
  | u :: r, j + 1, s, t, h => by
    have ih := roots_take (ts := r) (j := j) (s := s + tsz u) (t := t) (by simpa using h)
    simp only [List.take_succ_cons, roots, tszs, ih, List.cons_append, Nat.add_assoc]
theorem roots_len : ∀ (ts : List Tr) (s : Nat), (roots ts s).length = ts.length
  | [], _ => rfl
  | t :: r, s => by rw [roots, List.length_cons, roots_len, List.length_cons]
/-! ### nodes in memory -/
structure NdOk (w : World) (op n : Int) (binds : List Int) (kl : Nat) (alts : List Al) (y : ExY) : Prop where
  op : I64 op
  n : I64 n
  bl : binds.length ≤ 16
  al : alts.length ≤ 4096
  kl : kl ≤ 4096
  bc : binds.length ≤ y.b.2
  ac : alts.length ≤ y.a.2
  b : IntsO w (low w) binds y.b.1
  a : ArrP altR_ w (low w) alts y.a.1
mutual
def NodO (w : World) : Tr → Nat → Prop
  | .mk op n binds kids alts, b => ∃ y : ExY, b < w.heap.size ∧ CellsAt w ⟨b, 0, none⟩ [.int .i64 op, .int .i64 n, .slice y.b.1 binds.length y.b.2, .slice none 0 0, .slice y.a.1 alts.length y.a.2, .slice y.k.1 kids.length y.k.2] ∧ NdOk w op n binds kids.length alts y ∧ (0 < kids.length → ∃ a, y.k.1 = some a ∧ a.block < w.heap.size ∧ NodsO w kids a)
def NodsO (w : World) : List Tr → Addr → Prop
  | [], _ => True
  | t :: r, a => (∃ b, w.cell? a = some (.pointer (some ⟨b, 0, none⟩)) ∧ NodO w t b) ∧ NodsO w r (a.add 1)
end
mutual
theorem NodO.ext {w w' : World} (hs : w.heap.size ≤ w'.heap.size) (hk : ∀ k, k < w.heap.size → w'.heap[k]? = w.heap[k]?) : ∀ {t : Tr} {b : Nat}, NodO w t b → NodO w' t b
  | .mk op n binds kids alts, b, h => by
    simp only [NodO] at h ⊢
    obtain ⟨y, h1, h2, h3, h4⟩ := h
    refine ⟨y, by omega, cells_stab (hk _ h1) h2, ⟨h3.op, h3.n, h3.bl, h3.al, h3.kl, h3.bc, h3.ac, (h3.b.stab hk).mono fun k hk => Nat.lt_of_lt_of_le hk hs, (h3.a.stab hk).mono fun k hk => Nat.lt_of_lt_of_le hk hs⟩, fun hl => ?_⟩
    obtain ⟨a, ha, hb, hall⟩ := h4 hl
    exact ⟨a, ha, by omega, NodsO.ext hs hk hb hall⟩
theorem NodsO.ext {w w' : World} (hs : w.heap.size ≤ w'.heap.size) (hk : ∀ k, k < w.heap.size → w'.heap[k]? = w.heap[k]?) : ∀ {ts : List Tr} {a : Addr}, a.block < w.heap.size → NodsO w ts a → NodsO w' ts a
  | [], _, _, _ => by simp only [NodsO]
  | t :: r, a, hb, h => by
    simp only [NodsO] at h ⊢
    obtain ⟨⟨b, h1, h2⟩, h3⟩ := h
    exact ⟨⟨b, by rw [cell_heap (hk _ hb)]; exact h1, NodO.ext hs hk h2⟩, NodsO.ext hs hk (by rw [add_block]; exact hb) h3⟩
end
theorem NodO.at {w w' : World} {t : Tr} {b : Nat} {H : List Eng.Item} {S : List World} (h : NodO w t b) (hw : Cls H S w') (hs : w ∈ S) (hno : ∀ k, k < w.heap.size → NotOwned H k) : NodO w' t b :=
  h.ext (hw.kp w hs).size (hw.same hs hno)
theorem NodsO.get {w : World} : ∀ {ts : List Tr} {a : Addr} {i : Nat} {t : Tr}, NodsO w ts a → ts[i]? = some t → ∃ b, w.cell? (a.add (i * 1)) = some (.pointer (some ⟨b, 0, none⟩)) ∧ NodO w t b
  | [], _, _, _, _, h => by simp at h
  | u :: r, a, 0, t, h, hi => by
    simp only [NodsO] at h
    simp at hi; subst hi
    obtain ⟨b, h1, h2⟩ := h.1
    exact ⟨b, by rw [Nat.zero_mul, add_zero_]; exact h1, h2⟩
  | u :: r, a, i + 1, t, h, hi => by
    simp only [NodsO] at h
    obtain ⟨b, h1, h2⟩ := NodsO.get (i := i) h.2 (by simpa using hi)
    rw [add_add] at h1
    exact ⟨b, by rwa [show 1 + i * 1 = (i + 1) * 1 by omega] at h1, h2⟩
/-- a node of the list whose identifiers and alternatives lie in older memory -/
structure ExSOk (s0 w : World) (O : Nat → Prop) (x : Ex) (y : ExY) : Prop where
  n : NdOk s0 x.op x.n x.binds x.kids.length x.alts y
  kc : x.kids.length ≤ y.k.2
  k : IntsO w O x.kids y.k.1
def exS (s0 : World) : Rel Ex ExY where
  sz := 5
  pos := by decide
  cells := exC
  ok := ExSOk s0
  len := fun _ _ => rfl
  stab := fun hk h => ⟨h.n, h.kc, h.k.stab hk⟩
  mono := fun hk h => ⟨h.n, h.kc, h.k.mono hk⟩
theorem ExSOk.ok {s0 w : World} {x : Ex} {y : ExY} (h : ExSOk s0 w (low w) x y) (hs : s0.heap.size ≤ w.heap.size) (hk : ∀ k, k < s0.heap.size → w.heap[k]? = s0.heap[k]?) : ExOk w (low w) x y :=
  ⟨h.n.op, h.n.n, by have := h.n.bl; omega, by have := h.n.kl; omega, by have := h.n.al; omega, h.n.bc, h.kc, h.n.ac, (h.n.b.stab hk).mono fun k hk => Nat.lt_of_lt_of_le hk hs, h.k, (h.n.a.stab hk).mono fun k hk => Nat.lt_of_lt_of_le hk hs⟩
structure ST where
  l : List (Ex × ExY)
  O : Nat → Prop
  O2 : Nat → Prop
  q : Option Addr
  c : Nat
def ST.dummy (st : ST) (l : List Ex) : ST := ⟨st.l ++ l.map fun x => (x, ⟨(none, 0), (none, 0), (none, 0)⟩), fun _ => False, fun _ => False, none, 0⟩
theorem ST.dummy_map (st : ST) (l : List Ex) : (st.dummy l).l.map Prod.fst = st.l.map Prod.fst ++ l := by
  unfold ST.dummy
  rw [List.map_append, List.map_map]
  congr 1
  simp [Function.comp_def]
structure XI (S : List World) (st1 : ST) (t : Tr) where
  st : ST
  hst : st.l.map Prod.fst = st1.l.map Prod.fst ++ lay t st1.l.length
  b1 : Nat
  hb1 : AllLe S b1
  g1 : Nat
  c1 : Nat
  O1 : Nat → Prop
  old : Nat → Value
end Go.Co
namespace Go.Proofs.YtlboppiogeaicaaDoor.co
open Go.RowKit Go.Eng Go.Co
set_option linter.unusedVariables false
set_option linter.unusedSimpArgs false
set_option maxRecDepth 100000
set_option maxHeartbeats 1000000 in
theorem into_calls (s0 : World) (bo : Nat) (hbo : s0.heap.size ≤ bo) :
    ∀ (m : Nat) (t : Tr) (b : Nat) (st : ST) (H : List Eng.Item) (S : List World) (w : World), tsz t ≤ m → NodO s0 t b → st.l.length + tsz t ≤ 100000 → (∀ k, k < s0.heap.size → NotOwned H k) →
      Cls (blk bo 22 [.slice st.q st.l.length st.c] :: row s0.heap.size st.O st.q st.l.length st.c 28 5 (cat (exS s0).c st.l) :: pool (exS s0) s0.heap.size st.O2 st.l :: H) (s0 :: S) w →
      Calls Tryd.prog 42 [.pointer (some ⟨b, 0, none⟩), .pointer (some ⟨bo, 0, none⟩)].toArray w fun e w' => ∃ st' : ST, e = .returned (.int .i64 ((st'.l.length : Int) - 1)) ∧ st'.l.map Prod.fst = st.l.map Prod.fst ++ lay t st.l.length ∧ Cls (blk bo 22 [.slice st'.q st'.l.length st'.c] :: row s0.heap.size st'.O st'.q st'.l.length st'.c 28 5 (cat (exS s0).c st'.l) :: pool (exS s0) s0.heap.size st'.O2 st'.l :: H) (s0 :: S) w' := by
  intro m
  induction m with
  | zero =>
    intro t b st H S w hm
    obtain ⟨op, n, binds, kids, alts⟩ := t
    simp only [tsz] at hm
    omega
  | succ m ih =>
  intro t b st H S w hm ht hlen hno hc
  obtain ⟨op, n, binds, kids, alts⟩ := t
  simp only [NodO] at ht
  obtain ⟨y, hbs, hcells, hN, hks⟩ := ht
  have hcellI : ∀ {j : Nat} {v : Value}, ([.int .i64 op, .int .i64 n, .slice y.b.1 binds.length y.b.2, .slice none 0 0, .slice y.a.1 alts.length y.a.2, .slice y.k.1 kids.length y.k.2] : List Value)[j]? = some v → s0.cell? ⟨b, 0 + j, none⟩ = some v := fun {j v} hj => by
    have := hcells j v hj
    rwa [add_mid] at this
  have h5 : s0.cell? ⟨b, 0 + 5, none⟩ = some (.slice y.k.1 kids.length y.k.2) := hcellI (j := 5) rfl
  have hX : CellsAt s0 ⟨b, 0 + 0, none⟩ [.int .i64 op, .int .i64 n, .slice y.b.1 binds.length y.b.2, .slice none 0 0, .slice y.a.1 alts.length y.a.2] := fun j v hj => by
    have hj5 := (List.getElem?_eq_some_iff.1 hj).1
    have h9 : s0.cell? ⟨b, 0 + j, none⟩ = some v := hcellI (by
      rw [← hj]
      match j, hj5 with
      | 0, _ => rfl
      | 1, _ => rfl
      | 2, _ => rfl
      | 3, _ => rfl
      | 4, _ => rfl)
    rw [add_mid]
    simpa using h9
  simp only [tsz] at hm hlen
  have hkl := hN.kl
  refine enter Tryd.func42 rfl Tryd.ntmps42 rfl hc ?_
  (simp only [argEnv, Nat.zero_add, Nat.reduceAdd])
  apply W.sr
  apply oas; rfl; rfl
  apply OL.nsr
  apply omv; rfl; rfl
  apply oop; rfl; apply Pev.nil_ptr; rfl; exact yes
  apply ofa; rfl; rfl; rfl
  apply oop; rfl; apply Pev.load_keptA; rfl; exact yes; exact .head _; rfl; intro hcond; assumption; rfl; intro hcond; assumption; intro hcond; exact NotOwned.au
  apply OL.alloc; rfl; rfl; exact CellsL.agg; (intro bk hbk; simp only [AllLe, and_true] at hbk)
  apply OL.storeB; rfl; rfl; exact CellsL.agg; rfl; rfl; rfl; exact Swap.au; exact Put.au
  apply OL.nsr
  apply ofa; rfl; rfl; rfl
  apply OL.storeB; rfl; rfl; exact CellsL.one rfl; rfl; rfl; rfl; exact Swap.au; exact Put.au
  apply OL.nx
  apply W.seq
  apply W.sr
  apply omv; rfl; rfl
  apply oop; rfl; apply Pev.nil_ptr; rfl; exact yes
  apply ofa; rfl; rfl; rfl
  apply oop; rfl; apply Pev.load_kept; rfl; exact yes; exact .head _; rfl; intro hcond; assumption; intro hcond; assumption; intro hcond; exact NotOwned.au
  apply oop; rfl; apply Pev.len_slice; rfl; exact yes; rfl
  apply omv; rfl; rfl
  apply OL.nx
  apply W.block
  revert bk
  intro bx hbx
  have hbx0 : s0.heap.size ≤ bx := hbx.1
  obtain ⟨m0, hm0⟩ : ∃ m0, m0 = st.l.length := ⟨_, rfl⟩
  refine W.loop (G := Nat × ST × GR) (fun g => g.1 ≤ kids.length ∧ g.2.1.l.map Prod.fst = st.l.map Prod.fst ++ lays (kids.take g.1) m0) (fun g => kids.length - g.1)
    (fun g => [(1, true, .pointer (some ⟨bo, 0, none⟩)), (5, true, .pointer (some ⟨bx, 0, none⟩)), (16, true, .slice y.k.1 kids.length y.k.2), (17, true, .int .i64 (kids.length : Int)), (18, true, .int .i64 (g.1 : Int))])
    (fun g => Cls (row s0.heap.size g.2.2.O g.2.2.q g.1 g.2.2.c 3 1 (ints (roots (kids.take g.1) m0)) :: blk bx 28 [.int .i64 op, .int .i64 n, .slice y.b.1 binds.length y.b.2, .slice g.2.2.q g.1 g.2.2.c, .slice y.a.1 alts.length y.a.2] :: blk bo 22 [.slice g.2.1.q g.2.1.l.length g.2.1.c] :: row s0.heap.size g.2.1.O g.2.1.q g.2.1.l.length g.2.1.c 28 5 (cat (exS s0).c g.2.1.l) :: pool (exS s0) s0.heap.size g.2.1.O2 g.2.1.l :: H) (s0 :: S)) (0, st, ⟨fun _ => False, none, 0⟩) ⟨by simp, by simp [lays]⟩ (by exact Sub.au) (fun w' hw' => hw'.row_nil s0.heap.size 3 1) ?_
  rintro ⟨j, st1, ⟨Ok, qk, ck⟩⟩ ⟨hj, hst1⟩
  simp only at hj hst1 ⊢
  have hl1 : st1.l.length = m0 + tszs (kids.take j) := by
    have := congrArg List.length hst1
    rw [List.length_map, List.length_append, List.length_map, lays_len, ← hm0] at this
    exact this
  have htake := tszs_take_le (ts := kids) (i := j)
  apply W.sr
  apply obn; rfl; rfl; rfl; apply Bin.lss
  apply OL.nx
  apply W.seq
  (refine W.cnd (fun hlt => ?_) (fun hlt => ?_)) <;> (try (exfalso; first | omega | exact hlt trivial | contradiction))
  · have hjl : j < kids.length := by omega
    obtain ⟨a, hqa, hab, hnods⟩ := hks (by omega)
    have hki : kids[j]? = some kids[j] := List.getElem?_eq_getElem hjl
    obtain ⟨b', hcb, hkid⟩ := hnods.get hki
    have h1 := tszs_take_succ hki
    have h2 := tszs_take_le (ts := kids) (i := j + 1)
    rw [hqa]
    apply W.sk
    apply W.sb
    apply W.sr
    apply oop; rfl; apply Pev.idx; rfl; exact yes; rfl; exact yes; rfl; rfl; intro hcond; omega
    apply oop; rfl; apply Pev.load_kept; rfl; exact yes; exact .head _; rfl; intro hcond; assumption; intro hcond; (rw [add_block]; assumption); intro hcond; exact NotOwned.au
    apply oas; rfl; rfl
    apply OL.nx
    refine W.regany (X := XI (s0 :: S) st1 kids[j]) (fun x e => [(29, true, bif e 7 then .pointer (some ⟨bx, 0 + 3, none⟩) else x.old 29), (28, true, bif e 6 then .slice (some ⟨x.g1, 0, none⟩) (j + 1) x.c1 else x.old 28), (27, true, bif e 5 then .slice (some ⟨x.b1, 0, none⟩) 1 1 else x.old 27), (26, true, bif e 4 then .int .i64 ((x.st.l.length : Int) - 1) else x.old 26), (25, true, bif e 3 then .pointer (some ⟨bo, 0, none⟩) else x.old 25), (24, true, bif e 2 then .pointer (some ⟨b', 0, none⟩) else x.old 24), (23, true, bif e 1 then .slice qk j ck else x.old 23), (22, true, bif e 0 then .pointer (some ⟨bx, 0 + 3, none⟩) else x.old 22), (1, true, .pointer (some ⟨bo, 0, none⟩)), (5, true, .pointer (some ⟨bx, 0, none⟩)), (7, true, .pointer (some ⟨b', 0, none⟩)), (16, true, .slice (some a) kids.length y.k.2), (17, true, .int .i64 (kids.length : Int)), (18, true, .int .i64 (j : Int))])
      (fun x e => (bif e 6 then row s0.heap.size x.O1 (some ⟨x.g1, 0, none⟩) (j + 1) x.c1 3 1 (ints (roots (kids.take j) m0) ++ [.int .i64 ((x.st.l.length : Int) - 1)]) else row s0.heap.size Ok qk j ck 3 1 (ints (roots (kids.take j) m0))) :: (blk bx 28 [.int .i64 op, .int .i64 n, .slice y.b.1 binds.length y.b.2, bif e 8 then .slice (some ⟨x.g1, 0, none⟩) (j + 1) x.c1 else .slice qk j ck, .slice y.a.1 alts.length y.a.2]) :: (bif e 4 then blk bo 22 [.slice x.st.q x.st.l.length x.st.c] else blk bo 22 [.slice st1.q st1.l.length st1.c]) :: (bif e 4 then row s0.heap.size x.st.O x.st.q x.st.l.length x.st.c 28 5 (cat (exS s0).c x.st.l) else row s0.heap.size st1.O st1.q st1.l.length st1.c 28 5 (cat (exS s0).c st1.l)) :: (bif e 4 then pool (exS s0) s0.heap.size x.st.O2 x.st.l else pool (exS s0) s0.heap.size st1.O2 st1.l) :: (bif e 5 then blk x.b1 3 [.int .i64 ((x.st.l.length : Int) - 1)] else nothing) :: H)
      (fun old => ⟨st1.dummy (lay kids[j] st1.l.length), ST.dummy_map _ _, w.heap.size, AllLe.mk hc, 0, 0, fun _ => False, old⟩) (by kernel_rfl) (by kernel_rfl) (fun w hw => hw.drew) (fun old => by repeat (first | exact SubO.nil | apply SubO.cons rfl | refine SubO.old rfl ?_)) (fun old w' hw' => (hw'.nothing_cons).mv (A := [_]) (I := [_, _, _, _, _])) ?_ ?_
    · intro x e i o ho hei hd hcl
      have hi : i < 9 := (List.getElem?_eq_some_iff.1 ho).1
      obtain rfl | rfl | rfl | rfl | rfl | rfl | rfl | rfl | rfl : i = 0 ∨ i = 1 ∨ i = 2 ∨ i = 3 ∨ i = 4 ∨ i = 5 ∨ i = 6 ∨ i = 7 ∨ i = 8 := by omega
      · cases ho
        have v0 : Eng.upd e 0 0 = true := upd_eq
        simp only [hei, cond_true, cond_false]
        apply ofa; rfl; rfl; rfl
        apply OL.nil
        exact At.beside x (by repeat (first | exact Sub.nil | apply Sub.cons rfl | refine Sub.cons_eq rfl (by simp only [v0, cond_true, cond_false]) ?_)) (fun w' hw' => by first | exact hw' | (simp only [v0, cond_true, cond_false]; exact hw'))
      · cases ho
        have h0 : e 0 = true := hd ⟨0, .data⟩ (by simp) rfl
        have h8 : e 8 = false := hcl.not (i := 1) (j := 8) rfl hei (by kernel_rfl)
        have v1 : Eng.upd e 1 1 = true := upd_eq
        have v0 : Eng.upd e 1 0 = true := upd_mono h0
        have v8 : Eng.upd e 1 8 = false := h8
        simp only [hei, h0, h8, cond_true, cond_false]
        apply old; rfl; rfl; exact .tail _ (.head _); rfl; rfl
        apply OL.nil
        exact At.beside x (by repeat (first | exact Sub.nil | apply Sub.cons rfl | refine Sub.cons_eq rfl (by simp only [v1, v0, v8, cond_true, cond_false]) ?_)) (fun w' hw' => by first | exact hw' | (simp only [v1, v0, v8, cond_true, cond_false]; exact hw'))
      · cases ho
        have v2 : Eng.upd e 2 2 = true := upd_eq
        simp only [hei, cond_true, cond_false]
        apply omv; rfl; rfl
        apply OL.nil
        exact At.beside x (by repeat (first | exact Sub.nil | apply Sub.cons rfl | refine Sub.cons_eq rfl (by simp only [v2, cond_true, cond_false]) ?_)) (fun w' hw' => by first | exact hw' | (simp only [v2, cond_true, cond_false]; exact hw'))
      · cases ho
        have v3 : Eng.upd e 3 3 = true := upd_eq
        simp only [hei, cond_true, cond_false]
        apply omv; rfl; rfl
        apply OL.nil
        exact At.beside x (by repeat (first | exact Sub.nil | apply Sub.cons rfl | refine Sub.cons_eq rfl (by simp only [v3, cond_true, cond_false]) ?_)) (fun w' hw' => by first | exact hw' | (simp only [v3, cond_true, cond_false]; exact hw'))
      · cases ho
        have h2 : e 2 = true := hd ⟨2, .data⟩ (by simp) rfl
        have h3 : e 3 = true := hd ⟨3, .data⟩ (by simp) rfl
        have h5 : e 5 = false := hcl.not (i := 4) (j := 5) rfl hei (by kernel_rfl)
        have h6 : e 6 = false := hcl.not (i := 4) (j := 6) rfl hei (by kernel_rfl)
        have h8 : e 8 = false := hcl.not (i := 4) (j := 8) rfl hei (by kernel_rfl)
        have v4 : Eng.upd e 4 4 = true := upd_eq
        have v2 : Eng.upd e 4 2 = true := upd_mono h2
        have v3 : Eng.upd e 4 3 = true := upd_mono h3
        have v5 : Eng.upd e 4 5 = false := h5
        have v6 : Eng.upd e 4 6 = false := h6
        have v8 : Eng.upd e 4 8 = false := h8
        simp only [hei, h2, h3, h5, h6, h8, cond_true, cond_false]
        refine OL.callE (α := { z : ST // z.l.map Prod.fst = st1.l.map Prod.fst ++ lay kids[j] st1.l.length }) (fun z => .int .i64 ((z.1.l.length : Int) - 1)) (fun _ => True) (fun z => Cls (row s0.heap.size Ok qk j ck 3 1 (ints (roots (kids.take j) m0)) :: blk bx 28 [.int .i64 op, .int .i64 n, .slice y.b.1 binds.length y.b.2, .slice qk j ck, .slice y.a.1 alts.length y.a.2] :: blk bo 22 [.slice z.1.q z.1.l.length z.1.c] :: row s0.heap.size z.1.O z.1.q z.1.l.length z.1.c 28 5 (cat (exS s0).c z.1.l) :: pool (exS s0) s0.heap.size z.1.O2 z.1.l :: nothing :: H) (s0 :: S)) rfl rfl (by exact Args.au) (fun w2 hw2 => (ih kids[j] b' st1 (row s0.heap.size Ok qk j ck 3 1 (ints (roots (kids.take j) m0)) :: blk bx 28 [.int .i64 op, .int .i64 n, .slice y.b.1 binds.length y.b.2, .slice qk j ck, .slice y.a.1 alts.length y.a.2] :: nothing :: H) S w2 (by omega) hkid (by omega) (fun k hk => by have := hno k hk; exact NotOwned.au) (hw2.mv (A := [_, _]) (I := [_, _, _]) (H := nothing :: H))).mono (fun e w3 ⟨z, h1, h2, h3⟩ => ⟨⟨z, h2⟩, h1, trivial, h3.mv (A := [_, _, _]) (I := [_, _]) (H := nothing :: H)⟩)) ?_
        rintro ⟨st2, hst2⟩ -
        simp only
        apply OL.nil
        exact At.beside { x with st := st2, hst := hst2 } (by repeat (first | exact Sub.nil | apply Sub.cons rfl | refine Sub.cons_eq rfl (by simp only [v4, v2, v3, v5, v6, v8, cond_true, cond_false]) ?_)) (fun w' hw' => by first | exact hw' | (simp only [v4, v2, v3, v5, v6, v8, cond_true, cond_false]; exact hw'))
      · cases ho
        have h4 : e 4 = true := hd ⟨4, .data⟩ (by simp) rfl
        have v5 : Eng.upd e 5 5 = true := upd_eq
        have v4 : Eng.upd e 5 4 = true := upd_mono h4
        simp only [hei, h4, cond_true, cond_false]
        apply OL.buildSlice; rfl; rfl; rfl; exact Elems.au; rfl; rfl; (intro bk hbk; simp only [AllLe, and_true] at hbk)
        apply OL.nil
        exact At.beside { x with b1 := bk, hb1 := hbk } (by repeat (first | exact Sub.nil | apply Sub.cons rfl | refine Sub.cons_eq rfl (by simp only [v5, v4, cond_true, cond_false]) ?_)) (fun w' hw' => by simp only [v5, v4, cond_true, cond_false]; exact Cls.fill (p := 5) (H := _ :: _ :: _ :: _ :: _ :: _ :: H) (.s (.s (.s (.s (.s .z))))) hw')
      · cases ho
        have h1 : e 1 = true := hd ⟨1, .data⟩ (by simp) rfl
        have h5 : e 5 = true := hd ⟨5, .data⟩ (by simp) rfl
        have h4 : e 4 = true := hd ⟨4, .chain⟩ (by simp) rfl
        have h8 : e 8 = false := hcl.not (i := 6) (j := 8) rfl hei (by kernel_rfl)
        have v6 : Eng.upd e 6 6 = true := upd_eq
        have v1 : Eng.upd e 6 1 = true := upd_mono h1
        have v5 : Eng.upd e 6 5 = true := upd_mono h5
        have v4 : Eng.upd e 6 4 = true := upd_mono h4
        have v8 : Eng.upd e 6 8 = false := h8
        simp only [hei, h1, h5, h4, h8, cond_true, cond_false]
        apply OL.append
        rfl
        rfl
        rfl
        rfl
        exact Hole.au
        (repeat (first | exact List.Mem.head _ | apply List.Mem.tail))
        (repeat (first | apply Take.zero | apply Take.succ))
        rfl
        rfl
        exact ⟨s0, .head _, Nat.le_refl _⟩
        omega
        intro O1 g1 cap1
        apply OL.nil
        exact At.beside { x with g1 := g1, c1 := cap1, O1 := O1 } (by repeat (first | exact Sub.nil | apply Sub.cons rfl | refine Sub.cons_eq rfl (by simp only [v6, v1, v5, v4, v8, cond_true, cond_false]) ?_)) (fun w' hw' => by first | exact hw' | (simp only [v6, v1, v5, v4, v8, cond_true, cond_false]; exact hw'))
      · cases ho
        have v7 : Eng.upd e 7 7 = true := upd_eq
        simp only [hei, cond_true, cond_false]
        apply ofa; rfl; rfl; rfl
        apply OL.nil
        exact At.beside x (by repeat (first | exact Sub.nil | apply Sub.cons rfl | refine Sub.cons_eq rfl (by simp only [v7, cond_true, cond_false]) ?_)) (fun w' hw' => by first | exact hw' | (simp only [v7, cond_true, cond_false]; exact hw'))
      · cases ho
        have h6 : e 6 = true := hd ⟨6, .data⟩ (by simp) rfl
        have h7 : e 7 = true := hd ⟨7, .data⟩ (by simp) rfl
        have v8 : Eng.upd e 8 8 = true := upd_eq
        have v6 : Eng.upd e 8 6 = true := upd_mono h6
        have v7 : Eng.upd e 8 7 = true := upd_mono h7
        simp only [hei, h6, h7, cond_true, cond_false]
        apply OL.storeB; rfl; rfl; exact CellsL.one rfl; rfl; rfl; rfl; exact Swap.au; exact Put.au
        apply OL.nil
        exact At.beside x (by repeat (first | exact Sub.nil | apply Sub.cons rfl | refine Sub.cons_eq rfl (by simp only [v8, v6, v7, cond_true, cond_false]) ?_)) (fun w' hw' => by first | exact hw' | (simp only [v8, v6, v7, cond_true, cond_false]; exact hw'))
    · intro x e hall
      have hx1 := x.hb1
      have hst := x.hst
      have hxl : x.st.l.length = st1.l.length + tsz kids[j] := by
        have := congrArg List.length hst
        rw [List.length_map, List.length_append, List.length_map, lay_len] at this
        exact this
      simp only [hall 0 (by decide), hall 1 (by decide), hall 2 (by decide), hall 3 (by decide), hall 4 (by decide), hall 5 (by decide), hall 6 (by decide), hall 7 (by decide), hall 8 (by decide), cond_true, cond_false]
      have hsn : ints (roots (kids.take j) m0) ++ [.int .i64 ((x.st.l.length : Int) - 1)] = ints (roots (kids.take (j + 1)) m0) := by
        rw [roots_take hki, ints_append, hxl, hl1]
        rfl
      rw [hsn]
      with_reducible apply At.in_normal
      with_reducible apply At.next
      apply W.reg
      apply obn; rfl; rfl; rfl; apply Bin.add_in; omega
      apply omv; rfl; rfl
      apply OL.nil
      refine At.again (j + 1, x.st, ⟨x.O1, some ⟨x.g1, 0, none⟩, x.c1⟩) ⟨by simp only; omega, ?_⟩ (by simp only; omega) (by exact Sub.au) (fun w' hw' => (hw'.mv (A := [_, _, _, _, _]) (I := [_])).thin (.blk hx1 Thin.same))
      simp only
      rw [lays_take hki, ← List.append_assoc, ← hst1, hst, hl1]
  · obtain rfl : j = kids.length := by omega
    rw [List.take_length] at hst1 hl1 ⊢
    refine W.xt ?_
    with_reducible apply At.next
    apply W.seq
    refine W.regany (X := XI (s0 :: S) st1 leaf) (fun x e => [(38, true, bif e 7 then .pointer (some ⟨bo, 0, none⟩) else x.old 38), (37, true, bif e 6 then .slice (some ⟨x.g1, 0, none⟩) (st1.l.length + 1) x.c1 else x.old 37), (36, true, bif e 5 then .slice (some ⟨x.b1, 0, none⟩) 1 1 else x.old 36), (35, true, bif e 4 then .agg [.int .i64 op, .int .i64 n, .slice y.b.1 binds.length y.b.2, .slice qk kids.length ck, .slice y.a.1 alts.length y.a.2].toArray else x.old 35), (34, true, bif e 3 then .slice st1.q st1.l.length st1.c else x.old 34), (33, true, bif e 2 then .pointer (some ⟨bo, 0, none⟩) else x.old 33), (32, true, bif e 1 then .pointer (some ⟨bo, 0, none⟩) else x.old 32), (31, true, bif e 0 then .pointer (some ⟨bo, 0, none⟩) else x.old 31), (1, true, .pointer (some ⟨bo, 0, none⟩)), (5, true, .pointer (some ⟨bx, 0, none⟩))])
      (fun x e => (row s0.heap.size Ok qk kids.length ck 3 1 (ints (roots kids m0))) :: (blk bx 28 [.int .i64 op, .int .i64 n, .slice y.b.1 binds.length y.b.2, .slice qk kids.length ck, .slice y.a.1 alts.length y.a.2]) :: (blk bo 22 [bif e 8 then .slice (some ⟨x.g1, 0, none⟩) (st1.l.length + 1) x.c1 else .slice st1.q st1.l.length st1.c]) :: (bif e 6 then row s0.heap.size x.O1 (some ⟨x.g1, 0, none⟩) (st1.l.length + 1) x.c1 28 5 (cat (exS s0).c st1.l ++ [.int .i64 op, .int .i64 n, .slice y.b.1 binds.length y.b.2, .slice qk kids.length ck, .slice y.a.1 alts.length y.a.2]) else row s0.heap.size st1.O st1.q st1.l.length st1.c 28 5 (cat (exS s0).c st1.l)) :: (pool (exS s0) s0.heap.size st1.O2 st1.l) :: (bif e 5 then blk x.b1 28 [.int .i64 op, .int .i64 n, .slice y.b.1 binds.length y.b.2, .slice qk kids.length ck, .slice y.a.1 alts.length y.a.2] else nothing) :: H)
      (fun old => ⟨st1.dummy (lay leaf st1.l.length), ST.dummy_map _ _, w.heap.size, AllLe.mk hc, 0, 0, fun _ => False, old⟩) (by kernel_rfl) (by kernel_rfl) (fun w hw => hw.drew) (fun old => by repeat (first | exact SubO.nil | apply SubO.cons rfl | refine SubO.old rfl ?_)) (fun old w' hw' => (hw'.nothing_cons).mv (A := [_]) (I := [_, _, _, _, _])) ?_ ?_
    · intro x e i o ho hei hd hcl
      have hi : i < 9 := (List.getElem?_eq_some_iff.1 ho).1
      obtain rfl | rfl | rfl | rfl | rfl | rfl | rfl | rfl | rfl : i = 0 ∨ i = 1 ∨ i = 2 ∨ i = 3 ∨ i = 4 ∨ i = 5 ∨ i = 6 ∨ i = 7 ∨ i = 8 := by omega
      · cases ho
        have v0 : Eng.upd e 0 0 = true := upd_eq
        simp only [hei, cond_true, cond_false]
        apply omv; rfl; rfl
        apply OL.nil
        exact At.beside x (by repeat (first | exact Sub.nil | apply Sub.cons rfl | refine Sub.cons_eq rfl (by simp only [v0, cond_true, cond_false]) ?_)) (fun w' hw' => by first | exact hw' | (simp only [v0, cond_true, cond_false]; exact hw'))
      · cases ho
        have v1 : Eng.upd e 1 1 = true := upd_eq
        simp only [hei, cond_true, cond_false]
        apply omv; rfl; rfl
        apply OL.nil
        exact At.beside x (by repeat (first | exact Sub.nil | apply Sub.cons rfl | refine Sub.cons_eq rfl (by simp only [v1, cond_true, cond_false]) ?_)) (fun w' hw' => by first | exact hw' | (simp only [v1, cond_true, cond_false]; exact hw'))
      · cases ho
        have h1 : e 1 = true := hd ⟨1, .data⟩ (by simp) rfl
        have v2 : Eng.upd e 2 2 = true := upd_eq
        have v1 : Eng.upd e 2 1 = true := upd_mono h1
        simp only [hei, h1, cond_true, cond_false]
        apply oop; rfl; apply Pev.nil_ptr; rfl; exact yes
        apply OL.nil
        exact At.beside x (by repeat (first | exact Sub.nil | apply Sub.cons rfl | refine Sub.cons_eq rfl (by simp only [v2, v1, cond_true, cond_false]) ?_)) (fun w' hw' => by first | exact hw' | (simp only [v2, v1, cond_true, cond_false]; exact hw'))
      · cases ho
        have h2 : e 2 = true := hd ⟨2, .data⟩ (by simp) rfl
        have h8 : e 8 = false := hcl.not (i := 3) (j := 8) rfl hei (by kernel_rfl)
        have v3 : Eng.upd e 3 3 = true := upd_eq
        have v2 : Eng.upd e 3 2 = true := upd_mono h2
        have v8 : Eng.upd e 3 8 = false := h8
        simp only [hei, h2, h8, cond_true, cond_false]
        apply old; rfl; rfl; exact .tail _ (.tail _ (.head _)); rfl; rfl
        apply OL.nil
        exact At.beside x (by repeat (first | exact Sub.nil | apply Sub.cons rfl | refine Sub.cons_eq rfl (by simp only [v3, v2, v8, cond_true, cond_false]) ?_)) (fun w' hw' => by first | exact hw' | (simp only [v3, v2, v8, cond_true, cond_false]; exact hw'))
      · cases ho
        have v4 : Eng.upd e 4 4 = true := upd_eq
        simp only [hei, cond_true, cond_false]
        apply oop; rfl; apply Pev.load_blkA; rfl; exact yes; exact .tail _ (.head _); rfl; exact Take.au
        apply OL.nil
        exact At.beside x (by repeat (first | exact Sub.nil | apply Sub.cons rfl | refine Sub.cons_eq rfl (by simp only [v4, cond_true, cond_false]) ?_)) (fun w' hw' => by first | exact hw' | (simp only [v4, cond_true, cond_false]; exact hw'))
      · cases ho
        have h4 : e 4 = true := hd ⟨4, .data⟩ (by simp) rfl
        have v5 : Eng.upd e 5 5 = true := upd_eq
        have v4 : Eng.upd e 5 4 = true := upd_mono h4
        simp only [hei, h4, cond_true, cond_false]
        apply OL.buildSlice; rfl; rfl; rfl; exact Elems.au; rfl; rfl; (intro bk hbk; simp only [AllLe, and_true] at hbk)
        apply OL.nil
        exact At.beside { x with b1 := bk, hb1 := hbk } (by repeat (first | exact Sub.nil | apply Sub.cons rfl | refine Sub.cons_eq rfl (by simp only [v5, v4, cond_true, cond_false]) ?_)) (fun w' hw' => by simp only [v5, v4, cond_true, cond_false]; exact Cls.fill (p := 5) (H := _ :: _ :: _ :: _ :: _ :: _ :: H) (.s (.s (.s (.s (.s .z))))) hw')
      · cases ho
        have h3 : e 3 = true := hd ⟨3, .data⟩ (by simp) rfl
        have h5 : e 5 = true := hd ⟨5, .data⟩ (by simp) rfl
        have h8 : e 8 = false := hcl.not (i := 6) (j := 8) rfl hei (by kernel_rfl)
        have v6 : Eng.upd e 6 6 = true := upd_eq
        have v3 : Eng.upd e 6 3 = true := upd_mono h3
        have v5 : Eng.upd e 6 5 = true := upd_mono h5
        have v8 : Eng.upd e 6 8 = false := h8
        simp only [hei, h3, h5, h8, cond_true, cond_false]
        apply OL.append
        rfl
        rfl
        rfl
        rfl
        exact Hole.au
        (repeat (first | exact List.Mem.head _ | apply List.Mem.tail))
        (repeat (first | apply Take.zero | apply Take.succ))
        rfl
        rfl
        exact ⟨s0, .head _, Nat.le_refl _⟩
        omega
        intro O1 g1 cap1
        apply OL.nil
        exact At.beside { x with g1 := g1, c1 := cap1, O1 := O1 } (by repeat (first | exact Sub.nil | apply Sub.cons rfl | refine Sub.cons_eq rfl (by simp only [v6, v3, v5, v8, cond_true, cond_false]) ?_)) (fun w' hw' => by first | exact hw' | (simp only [v6, v3, v5, v8, cond_true, cond_false]; exact hw'))
      · cases ho
        have h0 : e 0 = true := hd ⟨0, .data⟩ (by simp) rfl
        have v7 : Eng.upd e 7 7 = true := upd_eq
        have v0 : Eng.upd e 7 0 = true := upd_mono h0
        simp only [hei, h0, cond_true, cond_false]
        apply oop; rfl; apply Pev.nil_ptr; rfl; exact yes
        apply OL.nil
        exact At.beside x (by repeat (first | exact Sub.nil | apply Sub.cons rfl | refine Sub.cons_eq rfl (by simp only [v7, v0, cond_true, cond_false]) ?_)) (fun w' hw' => by first | exact hw' | (simp only [v7, v0, cond_true, cond_false]; exact hw'))
      · cases ho
        have h6 : e 6 = true := hd ⟨6, .data⟩ (by simp) rfl
        have h7 : e 7 = true := hd ⟨7, .data⟩ (by simp) rfl
        have v8 : Eng.upd e 8 8 = true := upd_eq
        have v6 : Eng.upd e 8 6 = true := upd_mono h6
        have v7 : Eng.upd e 8 7 = true := upd_mono h7
        simp only [hei, h6, h7, cond_true, cond_false]
        apply OL.storeB; rfl; rfl; exact CellsL.one rfl; rfl; rfl; rfl; exact Swap.au; exact Put.au
        apply OL.nil
        exact At.beside x (by repeat (first | exact Sub.nil | apply Sub.cons rfl | refine Sub.cons_eq rfl (by simp only [v8, v6, v7, cond_true, cond_false]) ?_)) (fun w' hw' => by first | exact hw' | (simp only [v8, v6, v7, cond_true, cond_false]; exact hw'))
    · intro x e hall
      have hx1 := x.hb1
      simp only [hall 0 (by decide), hall 1 (by decide), hall 2 (by decide), hall 3 (by decide), hall 4 (by decide), hall 5 (by decide), hall 6 (by decide), hall 7 (by decide), hall 8 (by decide), cond_true, cond_false]
      with_reducible apply At.next
      apply W.sr
      apply omv; rfl; rfl
      apply oop; rfl; apply Pev.nil_ptr; rfl; exact yes
      apply old; rfl; rfl; exact .tail _ (.tail _ (.head _)); rfl; rfl
      apply oop; rfl; apply Pev.len_slice; rfl; exact yes; rfl
      apply obn; rfl; rfl; rfl; apply Bin.sub_in; omega
      apply oas; rfl; rfl
      apply OL.nx
      apply W.ret
      ((with_reducible apply At.fin1); rfl; rfl; intro w' hw')
      have hrow := hw'.item (i := row s0.heap.size Ok qk kids.length ck 3 1 (ints (roots kids m0))) (by exact mau)
      have hcap := row_cap hrow
      have h1 := (hw'.thin (.keep (.blk hbx (.keep (.keep (.keep (.blk hx1 Thin.same))))))).mv (A := [_, _, _]) (I := [_])
      have h2 := (h1.flip).pool_take (x := ⟨op, n, binds, roots kids m0, alts⟩) (y := ⟨y.b, (qk, ck), y.a⟩) (fun k hk => hk.1) ⟨by rw [roots_len]; exact ⟨hN.op, hN.n, hN.bl, hN.al, hN.kl, hN.bc, hN.ac, hN.b, hN.a⟩, by rw [roots_len]; exact hcap, fun hl => by
        obtain ⟨a, e1, e2, e3⟩ := row_at hrow (by rw [ints_length]; exact hl)
        exact ⟨a, e1, ⟨e2.1, .inr e2⟩, e3⟩⟩
      have h3 := h2.mv (A := [_]) (I := [_, _])
      refine ⟨⟨st1.l ++ [(⟨op, n, binds, roots kids m0, alts⟩, ⟨y.b, (qk, ck), y.a⟩)], x.O1, fun k => st1.O2 k ∨ (s0.heap.size ≤ k ∧ Ok k), some ⟨x.g1, 0, none⟩, x.c1⟩, ?_, ?_, ?_⟩
      · simp only [List.length_append, List.length_singleton]
      · rw [List.map_append, hst1, lay, List.append_assoc, ← hm0]
        rfl
      · simp only [List.length_append, List.length_singleton]
        rw [show cat (exS s0).c (st1.l ++ [((⟨op, n, binds, roots kids m0, alts⟩ : Ex), (⟨y.b, (qk, ck), y.a⟩ : ExY))]) = cat (exS s0).c st1.l ++ [.int .i64 op, .int .i64 n, .slice y.b.1 binds.length y.b.2, .slice qk kids.length ck, .slice y.a.1 alts.length y.a.2] by rw [cat_append, cat_one]; simp only [exS, Rel.c, exC, roots_len]]
        exact h3
theorem List_calls (t : Tr) (b : Nat) (w : World) (ht : NodO w t b) (hlen : tsz t ≤ 100000) :
    Calls Tryd.prog 15 [.pointer (some ⟨b, 0, none⟩)].toArray w fun e w' => ∃ (q : Option Addr) (c : Nat) (l : List (Ex × ExY)), e = .returned (.slice q l.length c) ∧ Ext w w' ∧ l.map Prod.fst = lay t 0 ∧ l.length ≤ c ∧ Arr exR w' (low w') l q := by
  refine enter Tryd.func15 rfl Tryd.ntmps15 rfl (Cls.start w) ?_
  (simp only [argEnv, Nat.zero_add, Nat.reduceAdd])
  apply W.sr
  apply oas; rfl; rfl
  apply OL.nsr
  apply OL.alloc; rfl; rfl; exact CellsL.one rfl; (intro bk hbk; simp only [AllLe, and_true] at hbk)
  apply OL.nsr
  apply omv; rfl; rfl
  revert bk
  intro bo hbo
  have hbo0 : w.heap.size ≤ bo := hbo
  refine OL.callE (α := ST) (fun z => .int .i64 ((z.l.length : Int) - 1)) (fun z => z.l.map Prod.fst = lay t 0) (fun z => Cls (blk bo 22 [.slice z.q z.l.length z.c] :: row w.heap.size z.O z.q z.l.length z.c 28 5 (cat (exS w).c z.l) :: pool (exS w) w.heap.size z.O2 z.l :: []) [w]) rfl rfl (by exact Args.au) (fun w2 hw2 => ?_) ?_
  · have h1 := (((hw2.row_nil w.heap.size 28 5).pool_nil (exS w) w.heap.size)).perm (List.reverse_perm _).symm
    refine (into_calls w bo hbo0 (tsz t) t b ⟨[], fun _ => False, fun _ => False, none, 0⟩ [] [] w2 (Nat.le_refl _) ht (by simpa using hlen) (fun k hk => NotOwned.nil) h1).mono fun e w3 ⟨z, h2, h3, h4⟩ => ⟨z, h2, by simpa using h3, h4⟩
  intro z hz
  apply OL.nsr
  apply old; rfl; rfl; exact .head _; rfl; rfl
  apply oas; rfl; rfl
  apply OL.nx
  apply W.ret
  ((with_reducible apply At.fin1); rfl; rfl; intro w' hw')
  have hsz := (hw'.kp w (.head _)).size
  have hk := hw'.same (.head _) (fun k hk => by exact NotOwned.au)
  have harr : Arr (exS w) w' (low w') z.l z.q := hw'.arr (B := w.heap.size) (O1 := z.O) (O2 := z.O2) (m := z.l.length) (cap := z.c) (e := 28) (by exact mau) (by exact mau)
  refine ⟨z.q, z.c, z.l, rfl, by (exact hw'.fr), hz, row_cap (hw'.item (i := row w.heap.size z.O z.q z.l.length z.c 28 5 (cat (exS w).c z.l)) (by exact mau)), harr.at_, fun p hp => (harr.el p hp).ok hsz hk⟩
end Go.Proofs.YtlboppiogeaicaaDoor.co

/- Plain: a check that finds a given expression valid by computing. No program in sight. No condition. -/
namespace Go.Co
set_option linter.unusedVariables false
set_option linter.unusedSimpArgs false
def growF (e : List Ex) : Nat → Nat → Tr
  | 0, _ => leaf
  | f + 1, i => match e[i]? with
    | none => leaf
    | some x => .mk x.op x.n x.binds (x.kids.map fun k => growF e f k.toNat) x.alts
theorem growF_eq {e : List Ex} (hd : Down e) : ∀ {f i : Nat}, i < f → i < e.length → growF e f i = grow e i := by
  intro f
  induction f with
  | zero => intro i h; omega
  | succ f ih =>
    intro i h hi
    have hx : e[i]? = some e[i] := List.getElem?_eq_getElem hi
    rw [growF, hx, grow_eq hd hx]
    simp only [Tr.mk.injEq, true_and, and_true]
    refine List.map_congr_left fun k hk => ?_
    have := hd i _ hx k hk
    exact ih (by omega) (by omega)
def downB (e : List Ex) : Bool := (List.range e.length).all fun i => match e[i]? with
  | none => true
  | some x => x.kids.all fun k => decide (0 ≤ k) && decide (k < (i : Int))
theorem downB_down {e : List Ex} (h : downB e = true) : Down e := fun i x hx k hk => by
  unfold downB at h
  rw [List.all_eq_true] at h
  have h1 := h i (List.mem_range.2 (List.getElem?_eq_some_iff.1 hx).1)
  rw [hx] at h1
  simp only [List.all_eq_true, Bool.and_eq_true, decide_eq_true_eq] at h1
  exact h1 k hk
def treeB (e : List Ex) : Bool := decide (0 < e.length) && decide (e.length ≤ 4096) && downB e && ((List.range (e.length - 1)).all fun i => decide ((kidsAll e).count (i : Int) = 1)) && decide (high (growF e e.length (e.length - 1)) ≤ 400)
theorem treeB_tree {e : List Ex} (h : treeB e = true) : TreeP e ∧ treeE e = 0 := by
  unfold treeB at h
  simp only [Bool.and_eq_true, decide_eq_true_eq, List.all_eq_true, List.mem_range] at h
  obtain ⟨⟨⟨⟨h1, h2⟩, h3⟩, h4⟩, h5⟩ := h
  have hd := downB_down h3
  have ht : TreeP e := ⟨h1, hd, fun i hi => h4 i (by omega)⟩
  refine ⟨ht, ?_⟩
  rw [treeE_tree (by omega) ht]
  rw [growF_eq hd (by omega) (by omega)] at h5
  exact if_neg (by omega)
def okB (e : List Ex) (ps : List Int) (flat : Bool) : Bool := treeB e && (e.all fun x => !flatBad flat x.op && decide (nodeE e x = 0)) && decide (ps ++ e.flatMap bindersX).Nodup && ((fv (growF e e.length (e.length - 1)) []).all fun n => decide (n ∈ ps))
theorem okB_ok {e : List Ex} {ps : List Int} {flat : Bool} (h : okB e ps flat = true) : bodyE e ps flat = 0 := by
  unfold okB at h
  simp only [Bool.and_eq_true, decide_eq_true_eq, List.all_eq_true, Bool.not_eq_true'] at h
  obtain ⟨⟨⟨h1, h2⟩, h3⟩, h4⟩ := h
  obtain ⟨h5, h6⟩ := treeB_tree h1
  have hp : 0 < e.length := h5.1
  rw [growF_eq h5.2.1 (by omega) (by omega)] at h4
  refine BodyOk.mk2 h6 (fun x hx => ?_) h3 h4
  obtain ⟨h7, h8⟩ := h2 x hx
  unfold oneE
  rw [if_neg (by rw [h7]; simp), h8]
end Go.Co

/- The walks of the reference's builders of nodes: N, B, W, V, Print. Conditions: none. -/
namespace Go.Proofs.YtlboppiogeaicaaDoor.co
open Go.RowKit Go.Eng Go.Co
set_option linter.unusedVariables false
set_option linter.unusedSimpArgs false
set_option maxRecDepth 100000
theorem N_calls (op n : Int) (ts : List Tr) (q : Option Addr) (c : Nat) (w : World) (ho : I64 op) (hn : I64 n) (hl : ts.length ≤ 4096) (hk : 0 < ts.length → ∃ a, q = some a ∧ a.block < w.heap.size ∧ NodsO w ts a) :
    Calls Tryd.prog 29 [.int .i64 op, .int .i64 n, .slice q ts.length c].toArray w fun e w' => ∃ b, e = .returned (.pointer (some ⟨b, 0, none⟩)) ∧ Ext w w' ∧ NodO w' (.mk op n [] ts []) b := by
  refine enter Tryd.func29 rfl Tryd.ntmps29 rfl (Cls.start w) ?_
  (simp only [argEnv, Nat.zero_add, Nat.reduceAdd])
  apply W.sr
  apply oas; rfl; rfl
  apply OL.nsr
  apply omv; rfl; rfl
  apply omv; rfl; rfl
  apply oop; rfl; apply Pev.build; rfl; exact CellsL.agg; rfl; exact Fill.au; rfl
  apply omv; rfl; rfl
  apply oop; rfl; apply Pev.build; rfl; exact CellsL.agg; rfl; exact Fill.au; rfl
  apply OL.box; rfl; rfl; exact CellsL.agg; (intro bk hbk; simp only [AllLe, and_true] at hbk)
  apply oas; rfl; rfl
  apply OL.nx
  apply W.ret
  ((with_reducible apply At.fin1); rfl; rfl; intro w' hw')
  have hb := hw'.item (.head _)
  refine ⟨bk, rfl, by (exact hw'.fr), ?_⟩
  simp only [NodO]
  refine ⟨⟨(none, 0), (q, c), (none, 0)⟩, blk_lt hb, fun j v hj => by rw [add_mid, blk_cell hb, Nat.zero_add]; exact hj, ⟨ho, hn, by simp, by simp, hl, by simp, by simp, IntsO.nil, ArrP.nil⟩, fun h => ?_⟩
  obtain ⟨a, h1, h2, h3⟩ := hk h
  have hsz := (hw'.kp w (by exact mau)).size
  exact ⟨a, h1, by omega, NodsO.ext hsz (hw'.same (by exact mau) (fun k hk => by exact NotOwned.au)) h2 h3⟩
theorem B_calls (op : Int) (l : List Int) (qb : Option Addr) (cb : Nat) (ts : List Tr) (q : Option Addr) (c : Nat) (w : World) (ho : I64 op) (hbl : l.length ≤ 16) (hbc : l.length ≤ cb) (hb : IntsO w (low w) l qb) (hl : ts.length ≤ 4096) (hk : 0 < ts.length → ∃ a, q = some a ∧ a.block < w.heap.size ∧ NodsO w ts a) :
    Calls Tryd.prog 18 [.int .i64 op, .slice qb l.length cb, .slice q ts.length c].toArray w fun e w' => ∃ b, e = .returned (.pointer (some ⟨b, 0, none⟩)) ∧ Ext w w' ∧ NodO w' (.mk op 0 l ts []) b := by
  refine enter Tryd.func18 rfl Tryd.ntmps18 rfl (Cls.start w) ?_
  (simp only [argEnv, Nat.zero_add, Nat.reduceAdd])
  apply W.sr
  apply oas; rfl; rfl
  apply OL.nsr
  apply omv; rfl; rfl
  apply omv; rfl; rfl
  apply oop; rfl; apply Pev.build; rfl; exact CellsL.agg; rfl; exact Fill.au; rfl
  apply omv; rfl; rfl
  apply oop; rfl; apply Pev.build; rfl; exact CellsL.agg; rfl; exact Fill.au; rfl
  apply OL.box; rfl; rfl; exact CellsL.agg; (intro bk hbk; simp only [AllLe, and_true] at hbk)
  apply oas; rfl; rfl
  apply OL.nx
  apply W.ret
  ((with_reducible apply At.fin1); rfl; rfl; intro w' hw')
  have hb2 := hw'.item (.head _)
  refine ⟨bk, rfl, by (exact hw'.fr), ?_⟩
  simp only [NodO]
  have hsz := (hw'.kp w (by exact mau)).size
  have hsm := hw'.same (List.Mem.head _) (fun k hk => by exact NotOwned.au)
  refine ⟨⟨(qb, cb), (q, c), (none, 0)⟩, blk_lt hb2, fun j v hj => by rw [add_mid, blk_cell hb2, Nat.zero_add]; exact hj, ⟨ho, by simp [I64], hbl, by simp, hl, hbc, by simp, (hb.stab hsm).mono fun k hk => Nat.lt_of_lt_of_le hk hsz, ArrP.nil⟩, fun h => ?_⟩
  obtain ⟨a, h1, h2, h3⟩ := hk h
  exact ⟨a, h1, by omega, NodsO.ext hsz hsm h2 h3⟩
theorem W_calls (n : Int) (w : World) (hn : I64 n) :
    Calls Tryd.prog 14 [.int .i64 n].toArray w fun e w' => ∃ b, e = .returned (.pointer (some ⟨b, 0, none⟩)) ∧ Ext w w' ∧ NodO w' (.mk 1 n [] [] []) b := by
  refine enter Tryd.func14 rfl Tryd.ntmps14 rfl (Cls.start w) ?_
  (simp only [argEnv, Nat.zero_add, Nat.reduceAdd])
  apply W.sr
  apply oas; rfl; rfl
  apply OL.nsr
  apply omv; rfl; rfl
  refine OL.callE (α := Nat × World) (fun z => .pointer (some ⟨z.1, 0, none⟩)) (fun z => NodO z.2 (.mk 1 n [] [] []) z.1) (fun z => Cls [] [z.2, w]) rfl rfl (by exact Args.au) (fun w2 hw2 => (N_calls 1 n [] none 0 w2 (by simp [I64]) hn (by simp) (fun h => by simp at h)).mono (fun e1 w3 ⟨b, h1, h2, h3⟩ => ⟨(b, w3), h1, h3, (hw2.ext h2).note⟩)) ?_
  rintro ⟨b, w3⟩ hN
  simp only at hN ⊢
  apply oas; rfl; rfl
  apply OL.nx
  apply W.ret
  ((with_reducible apply At.fin1); rfl; rfl; intro w' hw')
  exact ⟨b, rfl, hw'.fr (by exact mau), hN.at hw' (by exact mau) (fun k hk => NotOwned.nil)⟩
theorem V_calls (n : Int) (w : World) (hn : I64 n) :
    Calls Tryd.prog 19 [.int .i64 n].toArray w fun e w' => ∃ b, e = .returned (.pointer (some ⟨b, 0, none⟩)) ∧ Ext w w' ∧ NodO w' (.mk 0 n [] [] []) b := by
  refine enter Tryd.func19 rfl Tryd.ntmps19 rfl (Cls.start w) ?_
  (simp only [argEnv, Nat.zero_add, Nat.reduceAdd])
  apply W.sr
  apply oas; rfl; rfl
  apply OL.nsr
  apply omv; rfl; rfl
  refine OL.callE (α := Nat × World) (fun z => .pointer (some ⟨z.1, 0, none⟩)) (fun z => NodO z.2 (.mk 0 n [] [] []) z.1) (fun z => Cls [] [z.2, w]) rfl rfl (by exact Args.au) (fun w2 hw2 => (N_calls 0 n [] none 0 w2 (by simp [I64]) hn (by simp) (fun h => by simp at h)).mono (fun e1 w3 ⟨b, h1, h2, h3⟩ => ⟨(b, w3), h1, h3, (hw2.ext h2).note⟩)) ?_
  rintro ⟨b, w3⟩ hN
  simp only at hN ⊢
  apply oas; rfl; rfl
  apply OL.nx
  apply W.ret
  ((with_reducible apply At.fin1); rfl; rfl; intro w' hw')
  exact ⟨b, rfl, hw'.fr (by exact mau), hN.at hw' (by exact mau) (fun k hk => NotOwned.nil)⟩
/-- one kid, in a slice of the caller's -/
theorem kid1 {w : World} {H : List Eng.Item} {S : List World} {t : Tr} {b bk : Nat} {T : TypeId} (hw : Cls (blk bk T [.pointer (some ⟨b, 0, none⟩)] :: H) S w) (hN : NodO w t b) : 0 < [t].length → ∃ a, some (⟨bk, 0, none⟩ : Addr) = some a ∧ a.block < w.heap.size ∧ NodsO w [t] a := fun _ => by
  have hb := hw.item (.head _)
  refine ⟨_, rfl, blk_lt hb, ?_⟩
  simp only [NodsO]
  refine ⟨⟨b, ?_, hN⟩, trivial⟩
  rw [blk_cell hb]
  rfl
end Go.Proofs.YtlboppiogeaicaaDoor.co

/- The walk of slices.Equal at equal lists of usages, and of the law UsageSays. Conditions: none. -/
namespace Go.Co
open Go.Eng Go.RowKit
def lam2 : Tr := .mk 2 0 [1] [.mk 1 2 [] [] []] []
theorem lam2_ok : okB (lay lam2 0) [] false = true := by decide +kernel
theorem Parents.uniq {e : List Ex} (ht : IsTree e) {P P' : List Int} (h : Parents e P) (h' : Parents e P') : P = P' := by
  refine List.ext_getElem? fun k => ?_
  by_cases hk : k < e.length
  · by_cases hl : k + 1 < e.length
    · obtain ⟨p, m, hp⟩ := ht.one k hl
      rw [h.par k p m hp, h'.par k p m hp]
    · obtain rfl : k = e.length - 1 := by omega
      rw [h.root, h'.root]
  · rw [List.getElem?_eq_none (by rw [h.len]; omega), List.getElem?_eq_none (by rw [h'.len]; omega)]
/-- the parents of a tree -/
theorem parents_ex {e : List Ex} (ht : IsTree e) (h0 : 0 < e.length) : ∃ P, Parents e P := by
  obtain ⟨l, hl, hr⟩ := list_of (fun (i : Nat) (v : Int) => (∀ p m, Par e i p m → v = (p : Int)) ∧ (i + 1 = e.length → v = -1)) e.length (fun i hi => by
    by_cases hl : i + 1 < e.length
    · obtain ⟨p, m, hp⟩ := ht.one i hl
      exact ⟨(p : Int), fun p' m' hp' => by rw [(ht.uniq _ _ _ _ _ hp hp').1], fun h => by omega⟩
    · refine ⟨-1, fun p m hp => ?_, fun _ => rfl⟩
      have := hp.lt ht.down
      omega)
  refine ⟨l, hl, fun k p m hp => ?_, ?_⟩
  · have hk := hp.lt ht.down
    have h1 : l[k]? = some l[k] := List.getElem?_eq_getElem (by omega)
    rw [h1, (hr k _ h1).1 p m hp]
  · have h1 : l[e.length - 1]? = some l[e.length - 1] := List.getElem?_eq_getElem (by omega)
    rw [h1, (hr _ _ h1).2 (by omega)]
end Go.Co
namespace Go.Proofs.YtlboppiogeaicaaDoor.co
open Go.RowKit Go.Eng Go.Co
set_option linter.unusedVariables false
set_option linter.unusedSimpArgs false
set_option maxRecDepth 100000
theorem neqU_same (a b : Int) : Bin Tryd.prog .neq 64 (.agg #[.int .i64 a, .int .i64 b]) (.agg #[.int .i64 a, .int .i64 b]) (.bool false) := ⟨fun x y w => by
  have h1 := run_eqGuard_agg (P := Tryd.prog) w .neq 64 x y #[.int .i64 a, .int .i64 b] #[.int .i64 a, .int .i64 b] (by kernel_rfl)
  rw [Sem.run_bind, h1, Result.andThen_ok, run_neq_struct, run_equalIn_agg w 9999 64 _ _ (by kernel_rfl) (by kernel_rfl)]
  have hf : Tryd.prog.fieldsOf 64 = (match Tryd.prog.underlying 64 with | some (.struct fs) => fs | _ => #[]) := rfl
  rw [hf, Tryd.underlying64]
  simp only [Op.eqFields]
  have p1 : ∀ (w : World) (i : Nat) (v : Value) (cs : Array Value) (t : TypeId), cs[i]? = some v → scalB Tryd.prog t = true → (part t cs i).run Tryd.prog w = .ok v w := fun w i v cs t hv ht => by
    simp [part, Sem.run_bind, run_isAgg_scal ht, hv]
  have q1 := fun w => p1 w 0 (.int .i64 a) #[.int .i64 a, .int .i64 b] 3 rfl rfl
  have q2 := fun w => p1 w 1 (.int .i64 b) #[.int .i64 a, .int .i64 b] 3 rfl rfl
  have e1 := fun w z => run_equalIn_int (P := Tryd.prog) w 9998 3 .i64 .i64 z z Tryd.underlying3
  simp [Sem.run_bind, q1, q2, e1]⟩
theorem UEqual_calls (q1 q2 : Option Addr) (c1 c2 : Nat) (l : List (Int × Int)) (w : World) (hlen : l.length ≤ 9000000000) (h1 : SlAt w w.heap.size q1 (cat uc l)) (h2 : SlAt w w.heap.size q2 (cat uc l)) :
    Calls Tryd.prog 35 #[.slice q1 l.length c1, .slice q2 l.length c2] w fun e w' => e = .returned (.bool true) ∧ Ext w w' := by
  refine enter Tryd.func35 rfl Tryd.ntmps35 rfl (Cls.start w) ?_
  (simp only [argEnv, Nat.zero_add, Nat.reduceAdd])
  apply W.sr
  apply oas; rfl; rfl
  apply OL.nx
  apply W.seq
  apply W.sr
  apply omv; rfl; rfl
  apply oop; rfl; apply Pev.len_slice; rfl; exact yes; rfl
  apply omv; rfl; rfl
  apply oop; rfl; apply Pev.len_slice; rfl; exact yes; rfl
  apply obn; rfl; rfl; rfl; apply Bin.neq
  apply OL.nx
  refine W.cond rfl (fun hc => by simp at hc) (fun _ => ?_)
  apply W.sk
  apply W.seq
  apply W.sr
  apply omv; rfl; rfl
  apply oop; rfl; apply Pev.len_slice; rfl; exact yes; rfl
  apply omv; rfl; rfl
  apply OL.nx
  apply W.block
  refine W.loop (G := Nat) (fun i => i ≤ l.length) (fun i => l.length - i)
    (fun i => [(13, true, .int .i64 (i : Int)), (12, true, .int .i64 (l.length : Int)), (0, true, .slice q1 l.length c1), (1, true, .slice q2 l.length c2)])
    (fun i => Cls [] [w]) 0 (by omega) (by exact Sub.au) (fun w' hw' => hw') ?_
  intro i hi
  apply W.sr
  apply obn; rfl; rfl; rfl; apply Bin.lss
  apply OL.nx
  apply W.seq
  (refine W.cnd (fun hlt => ?_) (fun hlt => ?_)) <;> (try (exfalso; first | omega | exact hlt trivial | contradiction))
  · obtain ⟨a1, x, rfl, hab1, hx, hc1⟩ := h1.elem uc_len (by decide) (show i < l.length by omega)
    obtain ⟨a2, y, rfl, hab2, hy, hc2⟩ := h2.elem uc_len (by decide) (show i < l.length by omega)
    rw [hx] at hy
    obtain rfl := Option.some.inj hy
    have hc1 : CellsAt w (a1.add (i * 2)) [.int .i64 x.1, .int .i64 x.2] := hc1
    have hc2 : CellsAt w (a2.add (i * 2)) [.int .i64 x.1, .int .i64 x.2] := hc2
    apply W.sk
    apply W.sb
    apply W.sr
    apply omv; rfl; rfl
    apply oas; rfl; rfl
    apply OL.nx
    apply W.seq
    apply W.regd0; decide +kernel; kernel_rfl; decide +kernel; exact fun w hw => hw.drew
    apply qmv; rfl; rfl
    apply qmv; rfl; rfl
    apply qop; rfl; apply Pev.idx; rfl; exact yes; rfl; exact yes; rfl; rfl; intro hcond; omega
    apply qop; rfl; apply Pev.load_keptA; rfl; exact yes; exact .head _; rfl; intro hcond; assumption; rfl; intro hcond; (rw [add_block]; assumption); intro hcond; exact NotOwned.au
    apply qmv; rfl; rfl
    apply qmv; rfl; rfl
    apply qop; rfl; apply Pev.idx; rfl; exact yes; rfl; exact yes; rfl; rfl; intro hcond; omega
    apply qop; rfl; apply Pev.load_keptA; rfl; exact yes; exact .head _; rfl; intro hcond; assumption; rfl; intro hcond; (rw [add_block]; assumption); intro hcond; exact NotOwned.au
    (((first | (with_reducible apply OL.op) | (with_reducible apply QL.op)); (exact Guard.au); rfl; rfl); (refine Pev.bin (r := .bool false) rfl (by (first | exact fun _ => rfl | exact fun h => h | (intro h; simp_all; done))) rfl (by (first | exact fun _ => rfl | exact fun h => h | (intro h; simp_all; done))) (fun _ => neqU_same x.1 x.2)))
    apply QL.nil
    with_reducible apply At.next
    refine W.cond rfl (fun hc => by cases hc) (fun _ => ?_)
    apply W.skip
    with_reducible apply At.in_normal
    with_reducible apply At.next
    apply W.reg
    apply obn; rfl; rfl; rfl; apply Bin.add_in; omega
    apply omv; rfl; rfl
    apply OL.nil
    exact At.again (i + 1) (by omega) (by omega) (by exact Sub.au) (fun w' hw' => hw')
  · refine W.xt ?_
    with_reducible apply At.next
    apply W.sr
    apply oas; rfl; rfl
    apply OL.nx
    apply W.ret
    ((with_reducible apply At.fin1); rfl; rfl; intro w' hw')
    exact ⟨rfl, by (exact hw'.fr)⟩
theorem usage_law (q : Option Addr) (cap : Nat) (es : List (Ex × ExY)) (w : World) (he : Arr exR w (low w) es q) (hlen : es.length ≤ 9223372036854775807) (hcap : es.length ≤ cap) (hg : 1 < w.heap.size) (hs : arityAt w) :
    Calls Tryd.prog 10 #[.slice q es.length cap] w fun e w' => e = .returned (.bool true) ∧ Ext w w' := by
  refine enter Tryd.func10 rfl Tryd.ntmps10 rfl (Cls.start w) ?_
  (simp only [argEnv, Nat.zero_add, Nat.reduceAdd])
  apply W.sr
  apply oas; rfl; rfl
  apply OL.nx
  apply W.seq
  apply W.sr
  apply OL.buildSlice; rfl; rfl; rfl; exact Elems.au; rfl; rfl; (intro bk hbk; simp only [AllLe, and_true] at hbk)
  revert bk
  intro b1 hb1
  refine OL.callE (α := Nat × World) (fun z => .pointer (some ⟨z.1, 0, none⟩)) (fun z => NodO z.2 (.mk 1 2 [] [] []) z.1 ∧ IntsO z.2 (low z.2) [1] (some ⟨b1, 0, none⟩) ∧ w.heap.size ≤ z.2.heap.size) (fun z => Cls [] [z.2, w]) rfl rfl (by exact Args.au) (fun w2 hw2 => (W_calls 2 w2 (by simp [I64])).mono (fun e1 w3 ⟨b, h1, h2, h3⟩ => ⟨(b, w3), h1, ⟨h3, IntsO.ext (l := [1]) (fun _ => ⟨_, rfl, blk_lt (hw2.item (.head _)), fun j v hj => by rw [add_mid, blk_cell (hw2.item (.head _)), Nat.zero_add]; exact hj⟩) h2, Nat.le_trans (hw2.kp w (by exact mau)).size h2.size⟩, ((hw2.thin (by exact Thin.au)).ext h2).note⟩)) ?_
  rintro ⟨b, w3⟩ ⟨hN, hI1, hsz3⟩
  simp only at hN hI1 hsz3 ⊢
  apply OL.buildSlice; rfl; rfl; rfl; exact Elems.au; rfl; rfl; (intro bk hbk; simp only [AllLe, and_true] at hbk)
  revert bk
  intro b2 hb2
  refine OL.callE (α := Nat × World) (fun z => .pointer (some ⟨z.1, 0, none⟩)) (fun z => NodO z.2 lam2 z.1 ∧ w3.heap.size ≤ z.2.heap.size) (fun z => Cls [] [z.2, w3, w]) rfl rfl (by exact Args.au) (fun w2 hw2 => (B_calls 2 [1] (some ⟨b1, 0, none⟩) 1 [.mk 1 2 [] [] []] (some ⟨b2, 0, none⟩) 1 w2 (by simp [I64]) (by simp) (by simp) (hI1.at hw2 (by exact mau) (fun k hk => by exact NotOwned.au)) (by simp) (kid1 hw2 (hN.at hw2 (by exact mau) (fun k hk => by exact NotOwned.au)))).mono (fun e1 w4 ⟨b, h1, h2, h3⟩ => ⟨(b, w4), h1, ⟨h3, Nat.le_trans (hw2.kp w3 (by exact mau)).size h2.size⟩, ((hw2.thin (by exact Thin.au)).ext h2).note⟩)) ?_
  rintro ⟨b3, w4⟩ ⟨hN2, hsz4⟩
  simp only at hN2 hsz4 ⊢
  refine OL.callE (α := (Option Addr × Nat × List (Ex × ExY)) × World) (fun z => .slice z.1.1 z.1.2.2.length z.1.2.1) (fun z => z.1.2.2.map Prod.fst = lay lam2 0 ∧ z.1.2.2.length ≤ z.1.2.1 ∧ Arr exR z.2 (low z.2) z.1.2.2 z.1.1) (fun z => Cls [] [z.2, w]) rfl rfl (by exact Args.au) (fun w2 hw2 => (List_calls _ b3 w2 (hN2.at hw2 (by exact mau) (fun k hk => NotOwned.nil)) (by simp [lam2, tsz, tszs])).mono (fun e1 w4 ⟨q1, c1, l1, h1, h2, h3, h4, h5⟩ => ⟨((q1, c1, l1), w4), h1, ⟨h3, h4, h5⟩, ((hw2.forget (by simp)).ext h2).note⟩)) ?_
  rintro ⟨⟨q1, c1, l1⟩, w5⟩ ⟨hl1, hc1, ha1⟩
  simp only at hl1 hc1 ha1 ⊢
  have hb1 : bodyE (l1.map Prod.fst) [] false = 0 := by rw [hl1]; exact okB_ok lam2_ok
  have hll : l1.length = 2 := by
    have := congrArg List.length hl1
    rw [List.length_map, lay_len] at this
    simpa [lam2, tsz, tszs] using this
  refine OL.callE (α := (Option Addr × Nat) × World) (fun z => .tuple #[.slice z.1.1 1 z.1.2, .int .i64 0]) (fun z => SlAt z.2 z.2.heap.size z.1.1 (cat uc [(1, 0)])) (fun z => Cls [] [z.2, w]) rfl rfl (by exact Args.au) (fun w2 hw2 => ?_) ?_
  · refine (UsgOf_calls l1 q1 c1 w2 (ha1.at hw2 (by exact mau) (fun k hk => NotOwned.nil)) (by omega) (Nat.lt_of_lt_of_le hg (hw2.kp w (by exact mau)).size) (hs.at hg hw2 (by exact mau) (fun k hk => by exact NotOwned.au))).mono ?_
    rintro e w6 ⟨l, ql, cl, h1, h2, h3, h4, h5, h6⟩
    have h7 : l = [(1, 0)] := by
      have hok := BodyOk.of hb1
      obtain ⟨P, hP⟩ := parents_ex hok.tree.tree hok.tree.pos
      rw [h4 hb1 P hP, hl1]
      have hu : usageOf (lay lam2 0) P 1 = 0 := by
        unfold usageOf
        rw [show usesOf (lay lam2 0) 1 = 0 by decide +kernel]
        rfl
      rw [show sortI ((lay lam2 0).flatMap bindersX) = [1] by decide +kernel]
      simp [hu]
    subst h7
    exact ⟨((ql, cl), w6), by rw [h1, hb1]; rfl, h6, ((hw2.forget (by simp)).ext h2).note⟩
  rintro ⟨⟨ql, cl⟩, w6⟩ hI6
  simp only at hI6 ⊢
  apply omv; rfl; rfl
  apply oex; rfl; rfl; rfl
  apply oex; rfl; rfl; rfl
  apply oas; rfl; rfl
  apply oas; rfl; rfl
  apply OL.nsr
  apply omv; rfl; rfl
  apply obn; rfl; rfl; rfl; apply Bin.neq
  apply omv; rfl; rfl
  apply ono; rfl; rfl; rfl; apply Pev.move; rfl; exact yes
  apply ono; rfl; rfl; rfl; apply Pev.build; rfl; exact CellsL.agg; rfl; exact Fill.au; rfl
  ((apply OL.ungate); (exact Guard.au); (decide))
  apply OL.buildSlice; rfl; rfl; rfl; exact Elems.au; rfl; rfl; (intro bk hbk; simp only [AllLe, and_true] at hbk)
  revert bk
  intro b4 hb4
  (((first | (with_reducible apply OL.op) | (with_reducible apply QL.op)); (exact Guard.au); rfl; rfl); (exact Pev.call (v := .bool true) rfl (by exact Args.au) (fun _ w2 hw2 => (UEqual_calls ql (some ⟨b4, 0, none⟩) cl 1 [(1, 0)] w2 (by simp) (hI6.atW hw2 (by exact mau) (fun k hk => by exact NotOwned.au)) (fun _ => ⟨_, rfl, blk_lt (hw2.item (.head _)), fun j v hj => by rw [add_mid, blk_cell (hw2.item (.head _)), Nat.zero_add]; exact hj⟩)).mono (fun e w3 h => ⟨by rw [h.1], hw2.ext h.2⟩))))
  apply ono; rfl; rfl; rfl; apply Pev.not; rfl; exact yes
  apply oop; rfl; apply Pev.pick_or; rfl; exact yes; rfl; exact yes
  apply OL.nx
  refine W.cond rfl (fun hb => by simp at hb) (fun _ => ?_)
  apply W.sk
  apply W.sr
  apply omv; rfl; rfl
  obtain ⟨e, hee⟩ : ∃ e, es.map Prod.fst = e := ⟨_, rfl⟩
  have hel : e.length = es.length := by rw [← hee, List.length_map]
  refine OL.callE (α := (List (Int × Int) × Option Addr × Nat) × World) (fun z => .tuple #[.slice z.1.2.1 z.1.1.length z.1.2.2, .int .i64 (bodyE e [] false)]) (fun z => (bodyE e [] false ≠ 0 → z.1.1 = []) ∧ (bodyE e [] false = 0 → ∀ P, Parents e P → z.1.1 = (sortI (e.flatMap bindersX)).map fun n => (n, usageOf e P n)) ∧ z.1.1.length ≤ 1000000000 ∧ SlAt z.2 z.2.heap.size z.1.2.1 (cat uc z.1.1)) (fun z => Cls [] [z.2, w]) rfl rfl (by exact Args.au) (fun w2 hw2 => (UsgOf_calls es q cap w2 (he.at hw2 (by exact mau) (fun k hk => by exact NotOwned.au)) hlen (Nat.lt_of_lt_of_le hg (hw2.kp w (by exact mau)).size) (hs.at hg hw2 (by exact mau) (fun k hk => by exact NotOwned.au))).mono (fun e1 w7 ⟨l, ql, cl, h1, h2, h3, h4, h5, h6⟩ => ⟨((l, ql, cl), w7), by rw [h1, hee], by rw [hee] at h3 h4; exact ⟨h3, h4, h5, h6⟩, (((hw2.thin (by exact Thin.au)).forget (by simp)).ext h2).note⟩)) ?_
  rintro ⟨⟨l, ql2, cl2⟩, w7⟩ ⟨hc0, hc1, hll7, hI7⟩
  simp only at hc0 hc1 hll7 hI7 ⊢
  apply omv; rfl; rfl
  apply oex; rfl; rfl; rfl
  apply oex; rfl; rfl; rfl
  apply oas; rfl; rfl
  apply oas; rfl; rfl
  apply OL.nx
  apply W.seq
  apply W.sr
  apply omv; rfl; rfl
  (((first | (with_reducible apply OL.op) | (with_reducible apply QL.op)); (exact Guard.au); rfl; rfl); (exact Pev.call (v := .int .i64 (bodyE e [] false)) rfl (by exact Args.au) (fun _ w2 hw2 => (Fault_calls es q cap w2 (he.at hw2 (by exact mau) (fun k hk => by exact NotOwned.au)) hlen).mono (fun e1 w5 h => ⟨by rw [h.1, hee], hw2.ext h.2⟩))))
  apply oas; rfl; rfl
  apply OL.nsr
  apply omv; rfl; rfl
  apply obn; rfl; rfl; rfl; apply Bin.neq
  apply OL.nx
  (refine W.cnd (fun hf => ?_) (fun hf => ?_)) <;> (try (exfalso; first | omega | exact hf trivial | contradiction))
  · have h0 := hc0 (by simpa using hf)
    subst h0
    apply W.sr
    apply omv; rfl; rfl
    apply omv; rfl; rfl
    apply obn; rfl; rfl; rfl; apply Bin.eql
    apply omv; rfl; rfl
    apply oy; rfl; rfl; rfl; apply Pev.move; rfl; exact yes
    apply oy; rfl; rfl; rfl; apply Pev.len_slice; rfl; exact fun h => h; rfl
    apply oy; rfl; rfl; rfl; apply Pev.bin; rfl; exact fun h => h; rfl; exact yes; intro hcond; apply Bin.eql
    apply oop; rfl; apply Pev.pick_and; rfl; exact yes; rfl; exact fun h => h
    apply oas; rfl; rfl
    apply OL.nx
    refine W.rt ?_
    ((with_reducible apply At.fin1); rfl; rfl; intro w' hw')
    exact ⟨by simp, hw'.fr (by exact mau)⟩
  have hf0 : bodyE e [] false = 0 := by simpa using hf
  have hl7 := hc1 hf0
  rw [hf0]
  apply W.sk
  apply W.sr
  apply omv; rfl; rfl
  apply obn; rfl; rfl; rfl; apply Bin.eql
  apply omv; rfl; rfl
  apply oy; rfl; rfl; rfl; apply Pev.move; rfl; exact yes
  apply oy; rfl; rfl; rfl; apply Pev.move; rfl; exact yes
  ((apply OL.ungate); (exact Guard.au); (decide))
  refine OL.callE (α := (Option Addr × Nat) × World) (fun z => .slice z.1.1 l.length z.1.2) (fun z => SlAt z.2 z.2.heap.size z.1.1 (cat uc l)) (fun z => Cls [] [z.2, w7, w]) rfl rfl (by exact Args.au) (fun w2 hw2 => ?_) ?_
  · refine (UsageOf_calls es q cap w2 (he.at hw2 (by exact mau) (fun k hk => by exact NotOwned.au)) (by rw [hee]; exact hf0)).mono ?_
    rintro e1 w8 ⟨ql3, cl3, P, h1, h2, h3, h4⟩
    rw [hee] at h1 h3 h4
    have h7 := hl7 P h3
    rw [← h7] at h4
    exact ⟨((ql3, cl3), w8), by rw [h1, h7, List.length_map, sortI_len], h4, (hw2.ext h2).note⟩
  rintro ⟨⟨ql3, cl3⟩, w8⟩ hI8
  simp only at hI8 ⊢
  (((first | (with_reducible apply OL.op) | (with_reducible apply QL.op)); (exact Guard.au); rfl; rfl); (exact Pev.call (v := .bool true) rfl (by exact Args.au) (fun _ w2 hw2 => (UEqual_calls ql2 ql3 cl2 cl3 l w2 (by omega) (hI7.atW hw2 (by exact mau) (fun k hk => by exact NotOwned.au)) (hI8.atW hw2 (by exact mau) (fun k hk => by exact NotOwned.au))).mono (fun e w3 h => ⟨by rw [h.1], hw2.ext h.2⟩))))
  apply oop; rfl; apply Pev.pick_and; rfl; exact yes; rfl; exact yes
  apply oas; rfl; rfl
  apply OL.nx
  apply W.ret
  ((with_reducible apply At.fin1); rfl; rfl; intro w' hw')
  exact ⟨by simp, hw'.fr (by exact mau)⟩
end Go.Proofs.YtlboppiogeaicaaDoor.co

/- Readings with the reach: what a slice's and a struct's parts are, and how much they weigh at most. General. No condition. -/
namespace Go.Eng
open Go.RowKit Go.ChangeShapes Go.WideShapes Go.ChangeAt
set_option linter.unusedVariables false
set_option linter.unusedSimpArgs false
section
variable {H : Type} {enc : TypeId × Value → H} {P : Program} {w : World} {spare : Nat → Bool} {held : Bool}

/-- a datum within reach -/
def Lt (P : Program) (t : TypeId) (d : DataW H) : Prop := ∀ n ∈ d.weights P t, n ≤ reachBytes
theorem weightsAll_mem {e : TypeId} : ∀ {ds : List (DataW H)} {d : DataW H}, d ∈ ds → ∀ n ∈ d.weights P e, n ∈ DataW.weightsAll P e ds
  | x :: ds, d, hd, n, hn => by
    simp only [DataW.weightsAll, List.mem_append]
    rcases List.mem_cons.1 hd with rfl | hd
    · exact .inl hn
    · exact .inr (weightsAll_mem hd n hn)
theorem Lt.arg {ts : List TypeId} {ds : List (DataW H)} (h : (DataW.weightsEach P ts ds).all (· ≤ reachBytes) = true) {j : Nat} {t : TypeId} {d : DataW H} (ht : ts[j]? = some t) (hd : ds[j]? = some d) : Lt P t d := fun n hn => by
  have := List.all_eq_true.1 h _ (DataW.weights_mem_each ht hd n hn)
  simpa using this
theorem Lt.str {t : TypeId} {b : List UInt8} (h : Lt (H := H) P t (.lit (.string b))) : b.length ≤ reachBytes := h b.length (by simp [DataW.weights])

/-- a struct that reads -/
theorem rd_struct {t : TypeId} {fs : Array Field} {fuel : Nat} {cs : List Value} {x : DataW H × List MemPlace} (ht : P.underlying t = some (.struct fs)) (h : DataW.trod enc P w 0 spare held fuel t cs = some x) (hw : Lt P t x.1) :
    cs.length = P.cellsOf t ∧ ∃ n, n < fuel ∧ ∀ (i : Nat) (f : Field), fs[i]? = some f → ∃ y, DataW.trod enc P w 0 spare held n f.type ((cs.drop f.offset).take (P.cellsOf f.type)) = some y ∧ Lt P f.type y.1 := by
  obtain ⟨xs, n, hfu, rfl, hlen, hxl, hf⟩ := DataW.trod_struct ht h
  refine ⟨hlen, n, by omega, fun i f hi => ?_⟩
  have hlt : i < xs.length := by rw [hxl]; exact (Array.getElem?_eq_some_iff.1 hi).1
  refine ⟨xs[i], by rw [hf i f hi, List.getElem?_eq_getElem hlt], fun k hk => hw k ?_⟩
  simp only [DataW.weights, ht]
  exact DataW.weights_mem_each (j := i) (t := f.type) (d := xs[i].1) (by simpa using ⟨f, by simpa using hi, rfl⟩) (by simp [hlt]) k hk
/-- a slice that reads -/
theorem rd_slice0 {t e : TypeId} {sz fuel : Nat} {cs : List Value} {x : DataW H × List MemPlace} (ht : P.underlying t = some (.slice e)) (hs : P.cellsOf e = sz) (h : DataW.trod enc P w 0 spare held fuel t cs = some x) (hw : Lt P t x.1) :
    ∃ (q : Option Addr) (len cap : Nat), cs = [.slice q len cap] ∧ len ≤ cap ∧ cap ≤ maxLen ∧ len * P.bytesOf e ≤ reachBytes ∧ (q = none → len = 0) ∧
      ∃ n, n < fuel ∧ ∀ a, q = some a → ∀ i, i < len → ∃ cs' y, CellsAt w (a.add (i * sz)) cs' ∧ cs'.length = sz ∧ DataW.trod enc P w 0 spare held n e cs' = some y ∧ Lt P e y.1 := by
  rcases DataW.trod_slice ht h with ⟨rfl, _⟩ | ⟨a, len, cap, elems, rest, n, hf, rfl, rfl, _, hl, hm, hlen, hel, _, _⟩
  · refine ⟨none, 0, 0, rfl, Nat.le_refl _, by simp [maxLen], by simp, fun _ => rfl, 0, ?_, fun a ha => by cases ha⟩
    cases fuel with
    | zero => simp [DataW.trod] at h
    | succ n => omega
  · have hwt : len * P.bytesOf e ≤ reachBytes := by
      have h1 := hw ((elems.map (·.1)).length * P.bytesOf e + (rest.map (·.1)).length * P.bytesOf e) (by simp [DataW.weights, ht, Nat.add_mul])
      rw [List.length_map, hlen] at h1
      omega
    refine ⟨some a, len, cap, rfl, hl, hm, hwt, (fun hn => by cases hn), n, by omega, fun a' ha i hi => ?_⟩
    obtain rfl := Option.some.inj ha
    have h1 := hel i hi
    rw [List.getElem?_eq_getElem (by omega)] at h1
    rw [hs] at h1
    obtain ⟨cs', hc, ht'⟩ := Option.bind_eq_some_iff.1 h1
    obtain ⟨h2, h3⟩ := cellsAt_of hc
    refine ⟨cs', _, h2, h3, ht', fun k hk => hw k ?_⟩
    simp only [DataW.weights, ht]
    exact List.mem_cons_of_mem _ (List.mem_append_left _ (weightsAll_mem (d := elems[i].1) (List.mem_map.2 ⟨_, List.getElem_mem (by omega), rfl⟩) k hk))
variable {α : Type} {f : α → List Value} {sz : Nat} {R : α → Prop}
/-- a slice whose elements read, as a list -/
theorem rd_slice {t e : TypeId} {fuel : Nat} {cs : List Value} {x : DataW H × List MemPlace} (ht : P.underlying t = some (.slice e)) (hs : P.cellsOf e = sz) (hsz : 0 < sz) (hf : ∀ x, (f x).length = sz)
    (he : ∀ (n : Nat) (cs' : List Value) (y : DataW H × List MemPlace), n < fuel → DataW.trod enc P w 0 spare held n e cs' = some y → Lt P e y.1 → ∃ u : α, cs' = f u ∧ R u)
    (h : DataW.trod enc P w 0 spare held fuel t cs = some x) (hw : Lt P t x.1) :
    ∃ (q : Option Addr) (l : List α) (cap : Nat), cs = [.slice q l.length cap] ∧ l.length ≤ cap ∧ cap ≤ maxLen ∧ l.length * P.bytesOf e ≤ reachBytes ∧ SlAt w w.heap.size q (cat f l) ∧ ∀ u ∈ l, R u := by
  obtain ⟨q, len, cap, rfl, hle, hcap, hwt, hq0, m, hm, hel⟩ := rd_slice0 ht hs h hw
  cases q with
  | none =>
    obtain rfl := hq0 rfl
    exact ⟨none, [], cap, rfl, hle, hcap, by simp, SlAt.nil, fun u hu => by cases hu⟩
  | some a =>
    obtain ⟨l, hl, hr⟩ := list_of (fun i (u : α) => CellsAt w (a.add (i * sz)) (f u) ∧ R u) len (fun i hi => by
      obtain ⟨cs', y, hc, hl1, ht', hy⟩ := hel a rfl i hi
      obtain ⟨u, rfl, hR⟩ := he m cs' y hm ht' hy
      exact ⟨u, hc, hR⟩)
    subst hl
    refine ⟨some a, l, cap, rfl, hle, hcap, hwt, fun hv => ⟨a, rfl, ?_, fun j v hj => ?_⟩, fun u hu => ?_⟩
    · rw [cat_length hf] at hv
      have hl0 : 0 < l.length := Nat.pos_of_mul_pos_right hv
      have h0 := (hr 0 _ (List.getElem?_eq_getElem hl0)).1
      rw [Nat.zero_mul, add_zero_] at h0
      have hz : 0 < (f l[0]).length := by rw [hf]; exact hsz
      have := h0 0 _ (List.getElem?_eq_getElem hz)
      rw [add_zero_] at this
      exact cell_lt this
    · have hjl := (List.getElem?_eq_some_iff.1 hj).1
      rw [cat_length hf] at hjl
      have hi : j / sz < l.length := Nat.div_lt_of_lt_mul (by rwa [Nat.mul_comm] at hjl)
      have h0 := (hr (j / sz) _ (List.getElem?_eq_getElem hi)).1
      have hm' : j % sz < (f l[j / sz]).length := by rw [hf]; exact Nat.mod_lt _ hsz
      have h1 := cat_get hf (List.getElem?_eq_getElem hi) (j % sz) _ (List.getElem?_eq_getElem hm')
      have ej : j / sz * sz + j % sz = j := by rw [Nat.mul_comm]; exact Nat.div_add_mod j sz
      rw [ej, hj] at h1
      have h2 := h0 (j % sz) _ (List.getElem?_eq_getElem hm')
      rw [add_add, ej] at h2
      rw [h2, h1]
    · obtain ⟨i, hi, rfl⟩ := List.getElem_of_mem hu
      exact (hr i _ (List.getElem?_eq_getElem hi)).2
end
end Go.Eng

/- Readings with the reach, as relations. General. No condition. Readings of core expressions. No condition. -/
namespace Go.Eng
open Go.RowKit Go.ChangeShapes Go.WideShapes Go.ChangeAt
set_option linter.unusedVariables false
set_option linter.unusedSimpArgs false
section
variable {H : Type} {enc : TypeId × Value → H} {P : Program} {w : World} {spare : Nat → Bool} {held : Bool} {α μ : Type} {R : Rel α μ}
theorem rd_arrL {t e : TypeId} {fuel : Nat} {cs : List Value} {x : DataW H × List MemPlace} (ht : P.underlying t = some (.slice e)) (hs : P.cellsOf e = R.sz)
    (he : ∀ (n : Nat) (cs' : List Value) (y : DataW H × List MemPlace), n < fuel → DataW.trod enc P w 0 spare held n e cs' = some y → Lt P e y.1 → ∃ u : α × μ, cs' = R.c u ∧ R.ok w (low w) u.1 u.2)
    (h : DataW.trod enc P w 0 spare held fuel t cs = some x) (hw : Lt P t x.1) :
    ∃ (q : Option Addr) (l : List (α × μ)) (cap : Nat), cs = [.slice q l.length cap] ∧ l.length ≤ cap ∧ cap ≤ maxLen ∧ l.length * P.bytesOf e ≤ reachBytes ∧ Arr R w (low w) l q := by
  obtain ⟨q, l, cap, e1, h1, h2, h3, h4, h5⟩ := rd_slice (α := α × μ) (f := R.c) (R := fun u => R.ok w (low w) u.1 u.2) ht hs R.pos R.clen he h hw
  exact ⟨q, l, cap, e1, h1, h2, h3, fun hl => h4 (by rw [cat_length (f := R.c) R.clen]; exact Nat.mul_pos hl R.pos), h5⟩
end
end Go.Eng
namespace Go.Proofs.YtlboppiogeaicaaDoor.co
open Go.RowKit Go.Eng Go.Co Go.ChangeShapes Go.WideShapes Go.ChangeAt
set_option linter.unusedVariables false
set_option linter.unusedSimpArgs false
set_option maxRecDepth 100000
section
variable {H : Type} {enc : TypeId × Value → H} {w : World} {spare : Nat → Bool} {held : Bool}
theorem list2 {α : Type} {l : List α} (h : l.length = 2) : ∃ a b, l = [a, b] := by
  match l, h with
  | [a, b], _ => exact ⟨a, b, rfl⟩
theorem list5 {α : Type} {l : List α} (h : l.length = 5) : ∃ a b c d e, l = [a, b, c, d, e] := by
  match l, h with
  | [a, b, c, d, e], _ => exact ⟨a, b, c, d, e, rfl⟩
theorem reach47 : reachBytes ≤ 140737488355328 := by decide
theorem cat_ints (l : List Int) : cat (fun x : Int => [Value.int .i64 x]) l = ints l := by
  induction l with
  | nil => rfl
  | cons x r ih =>
    show [Value.int .i64 x] ++ cat (fun x : Int => [Value.int .i64 x]) r = _
    rw [ih]
    rfl
theorem ints_rd {fuel : Nat} {cs : List Value} {x : DataW H × List MemPlace} (h : DataW.trod enc Tryd.prog w 0 spare held fuel 25 cs = some x) (hw : Lt Tryd.prog 25 x.1) :
    ∃ (q : Option Addr) (l : List Int) (cap : Nat), cs = [.slice q l.length cap] ∧ l.length ≤ cap ∧ l.length ≤ 140737488355328 ∧ IntsO w (low w) l q ∧ ∀ n ∈ l, I64 n := by
  obtain ⟨q, l, cap, e1, h1, h2, h3, h4, h5⟩ := rd_slice (α := Int) (f := fun x => [Value.int .i64 x]) (R := fun n => I64 n) Tryd.underlying25 (by kernel_rfl) (by decide) (fun _ => rfl) (fun n cs' y _ hy _ => by
    obtain ⟨k, e1, hk⟩ := DataW.trod_int Tryd.underlying3 hy
    exact ⟨k, e1, wf_i64 hk.2⟩) h hw
  rw [cat_ints] at h4
  have hb : Tryd.prog.bytesOf 3 = 8 := by kernel_rfl
  rw [hb] at h3
  have := reach47
  exact ⟨q, l, cap, e1, h1, by omega, fun hl => h4 (by rw [ints_length]; exact hl), h5⟩
theorem alt_rd {fuel : Nat} {cs : List Value} {x : DataW H × List MemPlace} (h : DataW.trod enc Tryd.prog w 0 spare held fuel 132 cs = some x) (hw : Lt Tryd.prog 132 x.1) : ∃ u : Al × Sc, cs = altR_.c u ∧ altR_.ok w (low w) u.1 u.2 := by
  obtain ⟨hlen, n, hn, hf⟩ := rd_struct Tryd.underlying132 h hw
  rw [show Tryd.prog.cellsOf 132 = 2 by kernel_rfl] at hlen
  obtain ⟨a0, a1, rfl⟩ := list2 hlen
  obtain ⟨y0, g0, w0⟩ := hf 0 _ rfl
  obtain ⟨y1, g1, w1⟩ := hf 1 _ rfl
  change DataW.trod enc Tryd.prog w 0 spare held n 3 ((List.drop 0 [a0, a1]).take (Tryd.prog.cellsOf 3)) = some y0 at g0
  change DataW.trod enc Tryd.prog w 0 spare held n 25 ((List.drop 1 [a0, a1]).take (Tryd.prog.cellsOf 25)) = some y1 at g1
  rw [show Tryd.prog.cellsOf 3 = 1 by kernel_rfl] at g0
  rw [show Tryd.prog.cellsOf 25 = 1 by kernel_rfl] at g1
  obtain ⟨k, e0, hk⟩ := DataW.trod_int Tryd.underlying3 g0
  obtain ⟨q, l, cap, e1, h1, h2, h3, h4⟩ := ints_rd g1 w1
  simp at e0 e1
  exact ⟨(⟨k, l⟩, (q, cap)), by rw [e0, e1]; rfl, wf_i64 hk.2, ⟨h2, h1⟩, h3⟩
theorem expr_rd {fuel : Nat} {cs : List Value} {x : DataW H × List MemPlace} (h : DataW.trod enc Tryd.prog w 0 spare held fuel 28 cs = some x) (hw : Lt Tryd.prog 28 x.1) : ∃ u : Ex × ExY, cs = exR.c u ∧ exR.ok w (low w) u.1 u.2 := by
  obtain ⟨hlen, n, hn, hf⟩ := rd_struct Tryd.underlying28 h hw
  rw [show Tryd.prog.cellsOf 28 = 5 by kernel_rfl] at hlen
  obtain ⟨a0, a1, a2, a3, a4, rfl⟩ := list5 hlen
  obtain ⟨y0, g0, w0⟩ := hf 0 _ rfl
  obtain ⟨y1, g1, w1⟩ := hf 1 _ rfl
  obtain ⟨y2, g2, w2⟩ := hf 2 _ rfl
  obtain ⟨y3, g3, w3⟩ := hf 3 _ rfl
  obtain ⟨y4, g4, w4⟩ := hf 4 _ rfl
  change DataW.trod enc Tryd.prog w 0 spare held n 3 ((List.drop 0 [a0, a1, a2, a3, a4]).take (Tryd.prog.cellsOf 3)) = some y0 at g0
  change DataW.trod enc Tryd.prog w 0 spare held n 3 ((List.drop 1 [a0, a1, a2, a3, a4]).take (Tryd.prog.cellsOf 3)) = some y1 at g1
  change DataW.trod enc Tryd.prog w 0 spare held n 25 ((List.drop 2 [a0, a1, a2, a3, a4]).take (Tryd.prog.cellsOf 25)) = some y2 at g2
  change DataW.trod enc Tryd.prog w 0 spare held n 25 ((List.drop 3 [a0, a1, a2, a3, a4]).take (Tryd.prog.cellsOf 25)) = some y3 at g3
  change DataW.trod enc Tryd.prog w 0 spare held n 26 ((List.drop 4 [a0, a1, a2, a3, a4]).take (Tryd.prog.cellsOf 26)) = some y4 at g4
  rw [show Tryd.prog.cellsOf 3 = 1 by kernel_rfl] at g0 g1
  rw [show Tryd.prog.cellsOf 25 = 1 by kernel_rfl] at g2 g3
  rw [show Tryd.prog.cellsOf 26 = 1 by kernel_rfl] at g4
  obtain ⟨op, e0, hop⟩ := DataW.trod_int Tryd.underlying3 g0
  obtain ⟨nn, e1, hnn⟩ := DataW.trod_int Tryd.underlying3 g1
  obtain ⟨qb, lb, cb, e2, b1, b2, b3, b4⟩ := ints_rd g2 w2
  obtain ⟨qk, lk, ck, e3, k1, k2, k3, k4⟩ := ints_rd g3 w3
  obtain ⟨qa, la, ca, e4, a1, a2, a3, a4⟩ := rd_arrL (R := altR_) Tryd.underlying26 (by kernel_rfl) (fun n cs' y _ hy hwy => alt_rd hy hwy) g4 w4
  have hb : Tryd.prog.bytesOf 132 = 32 := by kernel_rfl
  rw [hb] at a3
  have := reach47
  simp at e0 e1 e2 e3 e4
  refine ⟨(⟨op, nn, lb, lk, la.map Prod.fst⟩, ⟨(qb, cb), (qk, ck), (qa, ca)⟩), by rw [e0, e1, e2, e3, e4]; simp [Rel.c, exR, exC], ?_⟩
  exact ⟨wf_i64 hop.2, wf_i64 hnn.2, b2, k2, by simp only [List.length_map]; omega, b1, k1, by simp only [List.length_map]; exact a1, b3, k3, ⟨la, rfl, a4⟩⟩
theorem exprs_rd {fuel : Nat} {cs : List Value} {x : DataW H × List MemPlace} (h : DataW.trod enc Tryd.prog w 0 spare held fuel 22 cs = some x) (hw : Lt Tryd.prog 22 x.1) :
    ∃ (q : Option Addr) (l : List (Ex × ExY)) (cap : Nat), cs = [.slice q l.length cap] ∧ l.length ≤ 9223372036854775807 ∧ Arr exR w (low w) l q := by
  obtain ⟨q, l, cap, e1, h1, h2, h3, h4⟩ := rd_arrL (R := exR) Tryd.underlying22 (by kernel_rfl) (fun n cs' y _ hy hwy => expr_rd hy hwy) h hw
  unfold maxLen at h2
  exact ⟨q, l, cap, e1, by omega, h4⟩
theorem exprs_rd2 {fuel : Nat} {cs : List Value} {x : DataW H × List MemPlace} (h : DataW.trod enc Tryd.prog w 0 spare held fuel 22 cs = some x) (hw : Lt Tryd.prog 22 x.1) :
    ∃ (q : Option Addr) (l : List (Ex × ExY)) (cap : Nat), cs = [.slice q l.length cap] ∧ l.length ≤ 9223372036854775807 ∧ l.length ≤ cap ∧ Arr exR w (low w) l q := by
  obtain ⟨q, l, cap, e1, h1, h2, h3, h4⟩ := rd_arrL (R := exR) Tryd.underlying22 (by kernel_rfl) (fun n cs' y _ hy hwy => expr_rd hy hwy) h hw
  unfold maxLen at h2
  exact ⟨q, l, cap, e1, by omega, h1, h4⟩
end
end Go.Proofs.YtlboppiogeaicaaDoor.co
