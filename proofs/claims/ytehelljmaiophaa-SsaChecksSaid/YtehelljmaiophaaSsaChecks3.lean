/- Texts of the proof of SsaChecks, part 3: rules of a calculus for walking, plain laws, and walks of the functions that the law reaches. No condition. -/
import Derived.LaidEqlPtr
import Derived.Lib.Builder
import Derived.Laws.Pointers
import Derived.Sort.Grow
import Derived.Test.YtehelljmaiophaaProg
import Derived.Shelf.Lays
import Derived.Shelf.Sort.Plain
import Derived.Shelf.Slices.In.SortNone
import Derived.Shelf.Slices.Reverse
import Derived.Test.YtehelljmaiophaaSsaChecks2
set_option linter.unusedVariables false
set_option linter.unusedSimpArgs false
/- The walks of ssa's uses and CheckFunc. Conditions: none. -/
namespace Go.Ss
open Go.Eng Go.RowKit
/-! ### what a shape without fault gives -/
theorem shape_block {bs : List Bk} (h : shapeE bs = 0) {k : Nat} {b : Bk} (hb : bs[k]? = some b) : blockE bs (defsF (bs.take k)) b = 0 := by
  have h1 := firstR_zero.1 h k (List.getElem?_eq_some_iff.1 hb).1
  rwa [List.getD_eq_getElem?_getD, hb] at h1
theorem block_zero {bs : List Bk} {seen : List Int} {b : Bk} (h : blockE bs seen b = 0) : firstR (paramE seen b.params) b.params.length = 0 ∧ firstR (insE (seen ++ b.params) b.ins) b.ins.length = 0 ∧ termE bs b.term = 0 := by
  unfold blockE at h
  split at h
  · rename_i h1; exact absurd h h1
  · split at h
    · rename_i h1 h2; exact absurd h h2
    · rename_i h1 h2; exact ⟨Classical.not_not.1 h1, Classical.not_not.1 h2, h⟩
theorem term_zero {bs : List Bk} {t : Tm} (h : termE bs t = 0) : shapeT t = true ∧ t.cases.length ≤ 256 ∧ (t.kind = 4 → 1 ≤ t.n ∧ t.n ≤ 6) ∧ firstR (caseE t.cases) t.cases.length = 0 ∧ ∀ e ∈ t.to_, edgeE bs e = 0 := by
  unfold termE at h
  split at h
  · cases h
  · rename_i h1
    split at h
    · cases h
    · rename_i h2
      split at h
      · cases h
      · rename_i h3
        split at h
        · rename_i h4; exact absurd h h4
        · rename_i h4
          refine ⟨by simpa using h1, by omega, fun hk => ?_, Classical.not_not.1 h4, firstE_zero.1 h⟩
          apply Classical.byContradiction
          intro hn
          exact h3 ⟨hk, hn⟩
theorem edge_zero {bs : List Bk} {e : Ed} (h : edgeE bs e = 0) : 1 ≤ e.block ∧ e.block < (bs.length : Int) ∧ e.args.length = (bs.getD e.block.toNat noB).params.length := by
  unfold edgeE at h
  split at h
  · cases h
  · rename_i h1
    split at h
    · cases h
    · rename_i h2
      exact ⟨by omega, by omega, Classical.not_not.1 h2⟩
theorem def_zero {v : Int} {l : List Int} (h : defE v l = 0) : 0 ≤ v ∧ v ≤ 4095 ∧ ¬ v ∈ l := by
  unfold defE at h
  split at h
  · cases h
  · rename_i h1
    split at h
    · cases h
    · rename_i h2
      exact ⟨by omega, by omega, h2⟩
theorem nodup_more : ∀ {ps seen : List Int}, (∀ (j : Nat) v, ps[j]? = some v → ¬ v ∈ seen ++ ps.take j) → seen.Nodup → (seen ++ ps).Nodup
  | [], seen, _, hs => by simpa using hs
  | p :: ps, seen, h, hs => by
    have h0 := h 0 p rfl
    simp only [List.take_zero, List.append_nil] at h0
    have h1 : (seen ++ [p]).Nodup := by
      rw [List.nodup_append]
      refine ⟨hs, by simp, fun a ha b hb => ?_⟩
      obtain rfl : b = p := by simpa using hb
      rintro rfl
      exact h0 ha
    have h2 := nodup_more (ps := ps) (seen := seen ++ [p]) (fun j v hv hm => h (j + 1) v (by simpa using hv) (by simpa using hm)) h1
    simpa using h2
theorem block_nodup {bs : List Bk} {seen : List Int} {b : Bk} (h : blockE bs seen b = 0) (hs : seen.Nodup) : (seen ++ defsB b).Nodup := by
  obtain ⟨h1, h2, _⟩ := block_zero h
  have h3 : (seen ++ b.params).Nodup := nodup_more (fun j v hv => by
    have h4 := firstR_zero.1 h1 j (List.getElem?_eq_some_iff.1 hv).1
    rw [paramE_at hv] at h4
    exact (def_zero h4).2.2) hs
  have h5 : ((seen ++ b.params) ++ b.ins.map In.to_).Nodup := nodup_more (fun j v hv => by
    rw [List.getElem?_map] at hv
    obtain ⟨i, hi, rfl⟩ := Option.map_eq_some_iff.1 hv
    have h4 := firstR_zero.1 h2 j (List.getElem?_eq_some_iff.1 hi).1
    rw [insE_at hi] at h4
    split at h4
    · rename_i h6; exact absurd h4 h6
    · rename_i h6
      rw [← List.map_take]
      exact (def_zero (Classical.not_not.1 h6)).2.2) h3
  unfold defsB
  rwa [← List.append_assoc]
theorem defs_nodup_take {bs : List Bk} (h : shapeE bs = 0) : ∀ k, k ≤ bs.length → (defsF (bs.take k)).Nodup
  | 0, _ => by simp [defsF]
  | k + 1, hk => by
    have hb : bs[k]? = some bs[k] := List.getElem?_eq_getElem (by omega)
    rw [List.take_add_one, hb, Option.toList_some]
    unfold defsF
    rw [List.flatMap_append]
    have h1 := block_nodup (shape_block h hb) (defs_nodup_take h k (by omega))
    simpa [defsF] using h1
theorem defs_nodup {bs : List Bk} (h : shapeE bs = 0) : (defsF bs).Nodup := by
  have := defs_nodup_take h bs.length (Nat.le_refl _)
  rwa [List.take_length] at this
theorem plget_iff {bs : List Bk} (h : shapeE bs = 0) {v : Int} {b a : Nat} : plget (plF bs 0) v = some (b, a) ↔ DefAt bs v b a := by
  constructor
  · intro hp
    obtain ⟨m, h1, h2⟩ := plF_mem.1 (plget_mem hp)
    obtain rfl : b = m := by omega
    exact h2
  · intro hd
    exact plget_of (by rw [plF_keys]; exact defs_nodup h) (plF_mem.2 ⟨b, by omega, hd⟩)
theorem shape_edges {bs : List Bk} (h : shapeE bs = 0) : ∀ b ∈ bs, ∀ e ∈ b.term.to_, 1 ≤ e.block ∧ e.block < (bs.length : Int) := fun b hb e he => by
  obtain ⟨k, hk⟩ := List.getElem?_of_mem hb
  have h1 := edge_zero ((term_zero (block_zero (shape_block h hk)).2.2).2.2.2.2 e he)
  exact ⟨h1.1, h1.2.1⟩
theorem shape_kind {t : Tm} (h : shapeT t = true) : 0 ≤ t.kind ∧ t.kind ≤ 4 := by
  unfold shapeT at h
  split at h
  · omega
  · split at h
    · omega
    · split at h
      · omega
      · split at h
        · omega
        · split at h
          · omega
          · cases h
/-! ### uses -/
theorem fineB_iff {bs : List Bk} (h : shapeE bs = 0) {O : List BS} {S : BS} (hd : DI (graphB bs) O S) (hf : DFix (graphB bs) O S) {k at_ : Nat} (hk : k < bs.length) {v : Int} : fineB (plF bs 0) O S k at_ v = true ↔ Fine bs v k at_ := by
  have hgl : (graphB bs).length = bs.length := by simp [graphB]
  have hseen := hd.seen hf (b := k) (by omega)
  have hOk : O[k]? = some (O.getD k (0, 0)) := by
    have : k < O.length := by rw [hd.len]; omega
    rw [List.getD_eq_getElem?_getD, List.getElem?_eq_getElem this]
    rfl
  have key : ∀ b a, b < bs.length → (((decide (b = k) && decide (a ≤ at_)) || (decide (b ≠ k) && hasS (O.getD k (0, 0)) b) || !hasS S k) = true ↔ ((b = k ∧ a ≤ at_) ∨ (b ≠ k ∧ Ovr (graphB bs) b k) ∨ ¬ Rc (graphB bs) (-1) k)) := fun b a hb => by
    by_cases hr : Rc (graphB bs) (-1) k
    · have ho := hd.over hf (a := b) (b := k) (by omega) hOk hr
      rw [hseen.2 hr]
      simp only [Bool.or_eq_true, Bool.and_eq_true, decide_eq_true_eq, Bool.not_true, Bool.false_eq_true, or_false, ho]
      constructor
      · rintro (h | h)
        · exact .inl h
        · exact .inr (.inl h)
      · rintro (h | h | h)
        · exact .inl h
        · exact .inr h
        · exact absurd hr h
    · have : hasS S k = false := by
        cases hh : hasS S k with
        | false => rfl
        | true => exact absurd (hseen.1 hh) hr
      rw [this]
      simp [hr]
  unfold fineB
  cases hp : plget (plF bs 0) v with
  | none =>
    simp only [Bool.false_eq_true, false_iff]
    rintro ⟨b, a, h1, _⟩
    rw [(plget_iff h).2 h1] at hp
    cases hp
  | some p =>
    obtain ⟨b, a⟩ := p
    have h1 := (plget_iff h).1 hp
    have hb : b < bs.length := by obtain ⟨x, hx, _⟩ := h1; exact (List.getElem?_eq_some_iff.1 hx).1
    simp only
    rw [key b a hb]
    constructor
    · intro h2; exact ⟨b, a, h1, h2⟩
    · rintro ⟨b', a', h3, h4⟩
      have h5 := (plget_iff h).2 h3
      rw [hp] at h5
      obtain ⟨rfl, rfl⟩ := Prod.mk.inj (Option.some.inj h5)
      exact h4
def UsesW (g : Nat → Nat → Int → Bool) (k : Nat) (b : Bk) : Prop := (∀ (n : Nat) i, b.ins[n]? = some i → ∀ v ∈ i.args, g k n v = true) ∧ ∀ v ∈ operT b.term, g k b.ins.length v = true
end Go.Ss
namespace Go.Proofs.Ytehelljmaiophaa.ss
set_option maxRecDepth 100000
open Go.Eng Go.RowKit Go.Ss
theorem uses_calls (s0 : World) (bc bm : Nat) (nm : Int) (es : List (Bk × BkY)) (q : Option Addr) (cap : Nat) (he : Arr bkR s0 (low s0) es q) (h0 : 0 < es.length) (hlen : es.length ≤ 128) (hsh : shapeE (es.map Prod.fst) = 0) (H : List Eng.Item) (w : World) (hno : ∀ k, k < s0.heap.size → NotOwned H k) (hbc : s0.heap.size ≤ bc) (hbm : s0.heap.size ≤ bm)
    (hc : Cls (blk bc 124 [.int .i64 nm, .slice q es.length cap, .map (some bm)] :: mapI bm (plM (plF (es.map Prod.fst) 0)) :: H) [s0] w) :
    Calls Try.prog 80 [.pointer (some ⟨bc, 0, none⟩)].toArray w fun e w' => ∃ r : Int, e = .returned (.int .i64 r) ∧ (r = 0 ∨ r = 6) ∧ (r = 0 ↔ ∀ (k : Nat) b, (es.map Prod.fst)[k]? = some b → UsesB (es.map Prod.fst) k b) ∧ Cls H [s0] w' := by
  obtain ⟨bs, hbs⟩ : ∃ bs, es.map Prod.fst = bs := ⟨_, rfl⟩
  have hbl : bs.length = es.length := by rw [← hbs, List.length_map]
  rw [hbs] at hc hsh ⊢
  have hgl : (graphB bs).length = es.length := by simp [graphB, hbl]
  obtain ⟨X, hX, hc⟩ := hc.mapX_of (p := 1) Hole.au
  refine enter Try.func80 rfl Try.ntmps80 rfl hc ?_
  (simp only [argEnv, Nat.zero_add, Nat.reduceAdd])
  apply W.sr
  apply OL.box; rfl; rfl; exact CellsL.one rfl; (intro bk hbk; simp only [AllLe, and_true] at hbk)
  apply oas; rfl; rfl
  apply OL.nsr
  apply old; rfl; rfl; exact .head _; rfl; rfl
  apply oop; rfl; apply Pev.nil_ptr; rfl; exact yes
  apply ofa; rfl; rfl; rfl
  apply oop; rfl; apply Pev.load_blkA; rfl; exact yes; exact .tail _ (.head _); rfl; exact Take.au
  revert bk
  intro bp hbp
  have hbp1 : s0.heap.size ≤ bp := by first | exact hbp | exact hbp.1
  refine OL.callE (α := Nat × List BS × BS) (fun z => .tuple #[.slice (some ⟨z.1, 0, none⟩) es.length es.length, .agg (setC z.2.2).toArray]) (fun z => s0.heap.size ≤ z.1 ∧ DI (graphB bs) z.2.1 z.2.2 ∧ DFix (graphB bs) z.2.1 z.2.2) (fun z => Cls (blk z.1 174 (cat setC z.2.1) :: blk bp 121 [.pointer (some ⟨bc, 0, none⟩)] :: blk bc 124 [.int .i64 nm, .slice q es.length cap, .map (some bm)] :: mapX bm X.1 X.2 :: H) [s0]) rfl rfl (by exact Args.au) (fun w2 hw2 => (dominators_calls es q cap nm w2 (he.at hw2 (by exact mau) (fun k hk => by exact NotOwned.au)) h0 hlen (fun p hp e hpe => by rw [← hbl]; exact shape_edges hsh p.1 (by rw [← hbs]; exact List.mem_map_of_mem hp) e hpe)).mono fun e w3 ⟨bO, O, S, h1, h2, h3, h4, h5, h6⟩ => ⟨(bO, O, S), h1, ⟨Nat.le_trans (hw2.kp s0 (by exact mau)).size h5, by rw [hbs] at h3; exact h3, by rw [hbs] at h4; exact h4⟩, hw2.add h2 _ h6 (fun k hk => by rw [show k = bO from hk]; exact ⟨h5, blk_lt h6⟩)⟩) ?_
  rintro ⟨bO, O, S⟩ ⟨hbO, hd, hf⟩
  simp only at hbO hd hf ⊢
  apply omv; rfl; rfl
  apply oex; rfl; rfl; rfl
  apply oex; rfl; rfl; rfl
  apply OL.alloc; rfl; rfl; exact CellsL.one rfl; (intro bk hbk; simp only [AllLe, and_true] at hbk)
  apply OL.alloc; rfl; rfl; exact CellsL.agg; (intro bk hbk; simp only [AllLe, and_true] at hbk)
  apply OL.storeB; rfl; rfl; exact CellsL.one rfl; rfl; rfl; rfl; exact Swap.au; exact Put.au
  apply OL.storeB; rfl; rfl; exact CellsL.agg; rfl; rfl; rfl; exact Swap.au; exact Put.au
  apply OL.nx
  apply W.seq
  apply W.sr
  apply old; rfl; rfl; apply List.Mem.tail; exact .tail _ (.tail _ (.head _)); rfl; rfl
  apply oop; rfl; apply Pev.nil_ptr; rfl; exact yes
  apply ofa; rfl; rfl; rfl
  apply ofa; rfl; rfl; rfl
  apply old; rfl; rfl; apply List.Mem.tail; apply List.Mem.tail; exact .tail _ (.tail _ (.head _)); rfl; rfl
  apply oop; rfl; apply Pev.len_slice; rfl; exact yes; rfl
  apply omv; rfl; rfl
  apply OL.nx
  apply W.block
  rename_i bo hbo
  revert bk
  intro bs_ hbs_
  have hbo1 : s0.heap.size ≤ bo := by first | exact hbo | exact hbo.1
  have hbs1 : s0.heap.size ≤ bs_ := by first | exact hbs_ | exact hbs_.1
  have hOl : O.length = es.length := by rw [hd.len, hgl]
  have hpb : ∀ v b a, plget (plF bs 0) v = some (b, a) → b < O.length := fun v b a hp => by
    obtain ⟨x, hx, _⟩ := (plget_iff hsh).1 hp
    have := (List.getElem?_eq_some_iff.1 hx).1
    omega
  obtain ⟨g, hg⟩ : ∃ g, fineB (plF bs 0) O S = g := ⟨_, rfl⟩
  have hfin : ∀ (k : Nat) b, bs[k]? = some b → (UsesB bs k b ↔ UsesW g k b) := fun k b hb => by
    have hk : k < bs.length := (List.getElem?_eq_some_iff.1 hb).1
    unfold UsesB UsesW
    rw [← hg]
    constructor
    · rintro ⟨h1, h2⟩
      exact ⟨fun n i hi v hv => (fineB_iff hsh hd hf hk).2 (h1 n i hi v hv), fun v hv => (fineB_iff hsh hd hf hk).2 (h2 v hv)⟩
    · rintro ⟨h1, h2⟩
      exact ⟨fun n i hi v hv => (fineB_iff hsh hd hf hk).1 (h1 n i hi v hv), fun v hv => (fineB_iff hsh hd hf hk).1 (h2 v hv)⟩
  have hbad : ∀ (k : Nat) b, bs[k]? = some b → ¬ UsesW g k b → ((6 : Int) = 0 ↔ ∀ (k : Nat) b, bs[k]? = some b → UsesB bs k b) := fun k b hb hn => ⟨fun h => by omega, fun h => absurd ((hfin k b hb).1 (h k b hb)) hn⟩
  refine W.loop (G := Nat) (fun k => k ≤ es.length ∧ ∀ (k' : Nat) b, k' < k → bs[k']? = some b → UsesW g k' b) (fun k => es.length - k)
    (fun k => [(1, true, .pointer (some ⟨bp, 0, none⟩)), (3, true, .pointer (some ⟨bo, 0, none⟩)), (4, true, .pointer (some ⟨bs_, 0, none⟩)), (25, true, .slice q es.length cap), (26, true, .int .i64 (es.length : Int)), (27, true, .int .i64 (k : Int))])
    (fun _ => Cls (blk bs_ 174 (setC S) :: blk bo 171 [.slice (some ⟨bO, 0, none⟩) es.length es.length] :: blk bO 174 (cat setC O) :: blk bp 121 [.pointer (some ⟨bc, 0, none⟩)] :: blk bc 124 [.int .i64 nm, .slice q es.length cap, .map (some bm)] :: mapX bm X.1 X.2 :: H) [s0]) 0 ⟨by omega, fun k' b h => by omega⟩ (by exact Sub.au) (fun w' hw' => hw') ?_
  rintro k ⟨hk, hk0⟩
  apply W.sr
  apply obn; rfl; rfl; rfl; apply Bin.lss
  apply OL.nx
  apply W.seq
  (refine W.cnd (fun hlt => ?_) (fun hlt => ?_)) <;> (try (exfalso; first | omega | exact hlt trivial | contradiction))
  · have hkl : k < es.length := by omega
    obtain ⟨a, p, hqa, hab, hp, hcell, hok⟩ := he.get hkl
    have hab : a.block < s0.heap.size := hab
    have hcell : CellsAt s0 (a.add (k * 7)) [.slice p.2.p.1 p.1.params.length p.2.p.2, .slice p.2.i.1 p.1.ins.length p.2.i.2, .int .i64 p.1.term.kind, .int .i64 p.1.term.arg, .int .i64 p.1.term.n, .slice p.2.t.c.1 p.1.term.cases.length p.2.t.c.2, .slice p.2.t.t.1 p.1.term.to_.length p.2.t.t.2] := hcell
    have hbsk : bs[k]? = some p.1 := by rw [← hbs, List.getElem?_map, hp]; rfl
    have hil := hok.il
    obtain ⟨pi, hpi, hiarr⟩ := hok.i
    have hpil : p.1.ins.length = pi.length := by rw [← hpi, List.length_map]
    have hkind := shape_kind (term_zero (block_zero (shape_block hsh hbsk)).2.2).1
    subst hqa
    apply W.sk
    apply W.sb
    apply W.sr
    apply omv; rfl; rfl
    apply oop; rfl; apply Pev.idx; rfl; exact yes; rfl; exact yes; rfl; rfl; intro hcond; omega
    apply oop; rfl; apply Pev.load_keptA; rfl; exact yes; exact .head _; rfl; intro hcond; assumption; rfl; intro hcond; (rw [add_block]; assumption); intro hcond; exact NotOwned.au
    apply OL.alloc; rfl; rfl; exact CellsL.one rfl; (intro bk hbk; simp only [AllLe, and_true] at hbk)
    apply OL.alloc; rfl; rfl; exact CellsL.agg; (intro bk hbk; simp only [AllLe, and_true] at hbk)
    apply OL.storeB; rfl; rfl; exact CellsL.one rfl; rfl; rfl; rfl; exact Swap.au; exact Put.au
    apply OL.storeB; rfl; rfl; exact CellsL.agg; rfl; rfl; rfl; exact Swap.au; exact Put.au
    apply OL.nsr
    apply OL.alloc; rfl; rfl; exact CellsL.one rfl; (intro bk hbk; simp only [AllLe, and_true] at hbk)
    apply OL.storeB; rfl; rfl; exact CellsL.one rfl; rfl; rfl; rfl; exact Swap.au; exact Put.au
    apply OL.nsr
    apply oop; rfl; apply Pev.makeFunc; exact Args.au; exact Args.au
    apply oas; rfl; rfl
    apply OL.nx
    apply W.seq
    apply W.sr
    apply ofa; rfl; rfl; rfl
    apply old; rfl; rfl; exact .tail _ (.head _); rfl; rfl
    apply oop; rfl; apply Pev.len_slice; rfl; exact yes; rfl
    apply omv; rfl; rfl
    apply OL.nx
    apply W.block
    rename_i b5 hb5 b6 hb6
    revert bk
    intro b7 hb7
    have hb51 : s0.heap.size ≤ b5 := by first | exact hb5 | exact hb5.1
    have hb61 : s0.heap.size ≤ b6 := by first | exact hb6 | exact hb6.1
    have hb71 : s0.heap.size ≤ b7 := by first | exact hb7 | exact hb7.1
    refine W.loop (G := Nat × Int) (fun z => z.1 ≤ p.1.ins.length ∧ ∀ (n : Nat) i, n < z.1 → p.1.ins[n]? = some i → ∀ v ∈ i.args, g k n v = true) (fun z => p.1.ins.length - z.1)
      (fun z => [(1, true, .pointer (some ⟨bp, 0, none⟩)), (3, true, .pointer (some ⟨bo, 0, none⟩)), (4, true, .pointer (some ⟨bs_, 0, none⟩)), (6, true, .pointer (some ⟨b6, 0, none⟩)), (7, true, .pointer (some ⟨b7, 0, none⟩)), (8, true, .func (.func 122) ([] : List Value).toArray [.pointer (some ⟨bp, 0, none⟩), .pointer (some ⟨b5, 0, none⟩), .pointer (some ⟨b7, 0, none⟩), .pointer (some ⟨bo, 0, none⟩), .pointer (some ⟨bs_, 0, none⟩)].toArray), (25, true, .slice (some a) es.length cap), (26, true, .int .i64 (es.length : Int)), (27, true, .int .i64 (k : Int)), (34, true, .slice p.2.i.1 p.1.ins.length p.2.i.2), (35, true, .int .i64 (p.1.ins.length : Int)), (36, true, .int .i64 (z.1 : Int))])
      (fun z => Cls (blk b7 3 [.int .i64 z.2] :: blk b6 41 [.slice p.2.p.1 p.1.params.length p.2.p.2, .slice p.2.i.1 p.1.ins.length p.2.i.2, .int .i64 p.1.term.kind, .int .i64 p.1.term.arg, .int .i64 p.1.term.n, .slice p.2.t.c.1 p.1.term.cases.length p.2.t.c.2, .slice p.2.t.t.1 p.1.term.to_.length p.2.t.t.2] :: blk b5 3 [.int .i64 (k : Int)] :: blk bs_ 174 (setC S) :: blk bo 171 [.slice (some ⟨bO, 0, none⟩) es.length es.length] :: blk bO 174 (cat setC O) :: blk bp 121 [.pointer (some ⟨bc, 0, none⟩)] :: blk bc 124 [.int .i64 nm, .slice (some a) es.length cap, .map (some bm)] :: mapX bm X.1 X.2 :: H) [s0]) (0, 0) ⟨by omega, fun n i h => by omega⟩ (by exact Sub.au) (fun w' hw' => hw') ?_
    rintro ⟨n, z⟩ ⟨hn, hn0⟩
    simp only at hn hn0 ⊢
    apply W.sr
    apply obn; rfl; rfl; rfl; apply Bin.lss
    apply OL.nx
    apply W.seq
    (refine W.cnd (fun hlt2 => ?_) (fun hlt2 => ?_)) <;> (try (exfalso; first | omega | exact hlt2 trivial | contradiction))
    · have hnl : n < p.1.ins.length := by omega
      obtain ⟨ai, u, hqi, haib, hu, hcu, hoku⟩ := hiarr.get (show n < pi.length by omega)
      have haib : ai.block < s0.heap.size := haib
      have hcu : CellsAt s0 (ai.add (n * 4)) [.int .i64 u.1.to_, .int .i64 u.1.op, .int .i64 u.1.n, .slice u.2.1 u.1.args.length u.2.2] := hcu
      have hui : p.1.ins[n]? = some u.1 := by rw [← hpi, List.getElem?_map, hu]; rfl
      have hual := hoku.al
      rw [hqi]
      apply W.sk
      apply W.sb
      apply W.sr
      apply omv; rfl; rfl
      apply oop; rfl; apply Pev.idx; rfl; exact yes; rfl; exact yes; rfl; rfl; intro hcond; omega
      apply oop; rfl; apply Pev.load_keptA; rfl; exact yes; exact .head _; rfl; intro hcond; assumption; rfl; intro hcond; (rw [add_block]; assumption); intro hcond; exact NotOwned.au
      apply OL.alloc; rfl; rfl; exact CellsL.agg; (intro bk hbk; simp only [AllLe, and_true] at hbk)
      apply oas; rfl; rfl
      apply OL.storeB; rfl; rfl; exact CellsL.agg; rfl; rfl; rfl; exact Swap.au; exact Put.au
      apply OL.nsr
      apply omv; rfl; rfl
      apply OL.storeB; rfl; rfl; exact CellsL.one rfl; rfl; rfl; rfl; exact Swap.au; exact Put.au
      apply OL.nsr
      apply ofa; rfl; rfl; rfl
      apply old; rfl; rfl; exact .head _; rfl; rfl
      apply oop; rfl; apply Pev.len_slice; rfl; exact yes; rfl
      apply omv; rfl; rfl
      apply OL.nx
      apply W.block
      revert bk
      intro b10 hb10
      have hb101 : s0.heap.size ≤ b10 := by first | exact hb10 | exact hb10.1
      refine W.loop (G := Nat) (fun i => i ≤ u.1.args.length ∧ ∀ (m : Nat) v, m < i → u.1.args[m]? = some v → g k n v = true) (fun i => u.1.args.length - i)
        (fun i => [(1, true, .pointer (some ⟨bp, 0, none⟩)), (3, true, .pointer (some ⟨bo, 0, none⟩)), (4, true, .pointer (some ⟨bs_, 0, none⟩)), (6, true, .pointer (some ⟨b6, 0, none⟩)), (7, true, .pointer (some ⟨b7, 0, none⟩)), (8, true, .func (.func 122) ([] : List Value).toArray [.pointer (some ⟨bp, 0, none⟩), .pointer (some ⟨b5, 0, none⟩), .pointer (some ⟨b7, 0, none⟩), .pointer (some ⟨bo, 0, none⟩), .pointer (some ⟨bs_, 0, none⟩)].toArray), (25, true, .slice (some a) es.length cap), (26, true, .int .i64 (es.length : Int)), (27, true, .int .i64 (k : Int)), (34, true, .slice (some ai) p.1.ins.length p.2.i.2), (35, true, .int .i64 (p.1.ins.length : Int)), (36, true, .int .i64 (n : Int)), (43, true, .slice u.2.1 u.1.args.length u.2.2), (44, true, .int .i64 (u.1.args.length : Int)), (45, true, .int .i64 (i : Int))])
        (fun i => Cls (blk b7 3 [.int .i64 (n : Int)] :: blk b6 41 [.slice p.2.p.1 p.1.params.length p.2.p.2, .slice (some ai) p.1.ins.length p.2.i.2, .int .i64 p.1.term.kind, .int .i64 p.1.term.arg, .int .i64 p.1.term.n, .slice p.2.t.c.1 p.1.term.cases.length p.2.t.c.2, .slice p.2.t.t.1 p.1.term.to_.length p.2.t.t.2] :: blk b5 3 [.int .i64 (k : Int)] :: blk bs_ 174 (setC S) :: blk bo 171 [.slice (some ⟨bO, 0, none⟩) es.length es.length] :: blk bO 174 (cat setC O) :: blk bp 121 [.pointer (some ⟨bc, 0, none⟩)] :: blk bc 124 [.int .i64 nm, .slice (some a) es.length cap, .map (some bm)] :: mapX bm X.1 X.2 :: H) [s0]) 0 ⟨by omega, fun m v h => by omega⟩ (by exact Sub.au) (fun w' hw' => hw'.thin (.any (fun k hk => by rw [show k = b10 from hk]; exact ⟨hb101, trivial⟩) Thin.same)) ?_
      rintro i ⟨hi, hi0⟩
      apply W.sr
      apply obn; rfl; rfl; rfl; apply Bin.lss
      apply OL.nx
      apply W.seq
      (refine W.cnd (fun hlt3 => ?_) (fun hlt3 => ?_)) <;> (try (exfalso; first | omega | exact hlt3 trivial | contradiction))
      · have hil2 : i < u.1.args.length := by omega
        obtain ⟨av, v, hqv, habv, hv, hcv⟩ := hoku.a.get hil2
        have habv : av.block < s0.heap.size := habv
        rw [hqv]
        apply W.sk
        apply W.sb
        apply W.sr
        apply oop; rfl; apply Pev.idx; rfl; exact yes; rfl; exact yes; rfl; rfl; intro hcond; omega
        apply oop; rfl; apply Pev.load_kept; rfl; exact yes; exact .head _; rfl; intro hcond; assumption; intro hcond; (rw [add_block]; assumption); intro hcond; exact NotOwned.au
        apply oas; rfl; rfl
        apply OL.nsr
        apply omv; rfl; rfl
        apply omv; rfl; rfl
        (((first | (with_reducible apply OL.op) | (with_reducible apply QL.op)); (exact Guard.au); rfl; rfl); (exact Pev.callv (v := .bool (g k n v)) (first := []) (cap := [.pointer (some ⟨bp, 0, none⟩), .pointer (some ⟨b5, 0, none⟩), .pointer (some ⟨b7, 0, none⟩), .pointer (some ⟨bo, 0, none⟩), .pointer (some ⟨bs_, 0, none⟩)]) (vs := [.int .i64 v]) rfl (by (first | exact fun _ => rfl | exact fun h => h | (intro h; simp_all; done))) rfl (by exact Args.au) (fun _ w2 hw2 => (fine_calls bp bc bm b5 b7 bo bs_ bO es.length nm (some a) es.length cap X.1 X.2 (plF bs 0) O S k n v w2 hX hOl (by omega) hd.ok hd.sok (by omega) (hpb v) (Cls.only hw2 (.cons_cons _ (.cons _ (.cons_cons _ (.cons_cons _ (.cons_cons _ (.cons_cons _ (.cons_cons _ (.cons_cons _ (.cons_cons _ (List.nil_sublist _)))))))))))).mono (fun e w3 h => ⟨by rw [h.1, hg], hw2.ext h.2⟩))))
        apply oop; rfl; apply Pev.not; rfl; exact yes
        apply OL.nx
        refine W.cond rfl (fun h3 => ?_) (fun h3 => ?_)
        · have hfa : g k n v = false := by simpa using h3
          apply W.sr
          apply oas; rfl; rfl
          apply OL.nx
          refine W.rt ?_
          ((with_reducible apply At.fin1); rfl; rfl; intro w' hw')
          exact ⟨6, rfl, .inr rfl, hbad k p.1 hbsk (fun hh => by have := hh.1 n u.1 hui v (List.mem_of_getElem? hv); rw [this] at hfa; cases hfa), hw'.thin (.any (fun k hk => by rw [show k = b7 from hk]; exact ⟨hb71, trivial⟩) (.any (fun k hk => by rw [show k = b6 from hk]; exact ⟨hb61, trivial⟩) (.any (fun k hk => by rw [show k = b5 from hk]; exact ⟨hb51, trivial⟩) (.any (fun k hk => by rw [show k = bs_ from hk]; exact ⟨hbs1, trivial⟩) (.any (fun k hk => by rw [show k = bo from hk]; exact ⟨hbo1, trivial⟩) (.any (fun k hk => by rw [show k = bO from hk]; exact ⟨hbO, trivial⟩) (.any (fun k hk => by rw [show k = bp from hk]; exact ⟨hbp1, trivial⟩) (.any (fun k hk => by rw [show k = bc from hk]; exact ⟨hbc, trivial⟩) (.any (fun k hk => by rw [show k = bm from hk]; exact ⟨hbm, trivial⟩) Thin.same)))))))))⟩
        · have htr : g k n v = true := by simpa using h3
          apply W.skip
          with_reducible apply At.in_normal
          with_reducible apply At.next
          apply W.reg
          apply obn; rfl; rfl; rfl; apply Bin.add_in; omega
          apply omv; rfl; rfl
          apply OL.nil
          refine At.again (i + 1) ⟨by omega, fun m v' hm hv' => ?_⟩ (by omega) (by exact Sub.au) (fun w' hw' => hw')
          by_cases em : m = i
          · subst em
            rw [hv] at hv'
            obtain rfl := Option.some.inj hv'
            exact htr
          · exact hi0 m v' (by omega) hv'
      · obtain rfl : i = u.1.args.length := by omega
        refine W.xt ?_
        with_reducible apply At.in_normal
        with_reducible apply At.next
        apply W.reg
        apply obn; rfl; rfl; rfl; apply Bin.add_in; omega
        apply omv; rfl; rfl
        apply OL.nil
        refine At.again (n + 1, (n : Int)) ⟨by simp only; omega, fun m i' hm hi' v hv => ?_⟩ (by simp only; omega) (by exact Sub.au) (fun w' hw' => hw')
        simp only at hm
        by_cases em : m = n
        · subst em
          rw [hui] at hi'
          obtain rfl := Option.some.inj hi'
          obtain ⟨m2, hm2⟩ := List.getElem?_of_mem hv
          exact hi0 m2 v (List.getElem?_eq_some_iff.1 hm2).1 hm2
        · exact hn0 m i' (by omega) hi' v hv
    · obtain rfl : n = p.1.ins.length := by omega
      refine W.xt ?_
      with_reducible apply At.next
      apply W.sr
      apply ofa; rfl; rfl; rfl
      apply old; rfl; rfl; exact .tail _ (.head _); rfl; rfl
      apply oop; rfl; apply Pev.len_slice; rfl; exact yes; rfl
      apply OL.storeB; rfl; rfl; exact CellsL.one rfl; rfl; rfl; rfl; exact Swap.au; exact Put.au
      apply OL.nsr
      apply ofa; rfl; rfl; rfl
      apply oop; rfl; apply Pev.load_blkA; rfl; exact yes; exact .tail _ (.head _); rfl; exact Take.au
      apply omv; rfl; rfl
      (((first | (with_reducible apply OL.op) | (with_reducible apply QL.op)); (exact Guard.au); rfl; rfl); (exact Pev.call (v := .bool ((operT p.1.term).all (g k p.1.ins.length))) rfl (by exact Args.au) (fun _ w2 hw2 => (used_calls p.1.term p.2.t 122 [] [.pointer (some ⟨bp, 0, none⟩), .pointer (some ⟨b5, 0, none⟩), .pointer (some ⟨b7, 0, none⟩), .pointer (some ⟨bo, 0, none⟩), .pointer (some ⟨bs_, 0, none⟩)] (g k p.1.ins.length) w2 (TmOk.at hok.t hw2 (by exact mau) (fun k hk => by exact NotOwned.au)) hkind rfl (fun v hv w9 hx9 => (fine_calls bp bc bm b5 b7 bo bs_ bO es.length nm (some a) es.length cap X.1 X.2 (plF bs 0) O S k p.1.ins.length v w9 hX hOl (by omega) hd.ok hd.sok (by omega) (hpb v) (Cls.only (hw2.ext hx9) (.cons_cons _ (.cons _ (.cons_cons _ (.cons_cons _ (.cons_cons _ (.cons_cons _ (.cons_cons _ (.cons_cons _ (.cons_cons _ (List.nil_sublist _)))))))))))).mono (fun e w3 h => ⟨by rw [h.1, hg], h.2⟩))).mono (fun e w3 h => ⟨h.1, hw2.ext h.2⟩))))
      apply oop; rfl; apply Pev.not; rfl; exact yes
      apply OL.nx
      refine W.cond rfl (fun h3 => ?_) (fun h3 => ?_)
      · have hfa : (operT p.1.term).all (g k p.1.ins.length) = false := by simpa using h3
        apply W.sr
        apply oas; rfl; rfl
        apply OL.nx
        refine W.rt ?_
        ((with_reducible apply At.fin1); rfl; rfl; intro w' hw')
        exact ⟨6, rfl, .inr rfl, hbad k p.1 hbsk (fun hh => by have := List.all_eq_true.2 hh.2; rw [this] at hfa; cases hfa), hw'.thin (.any (fun k hk => by rw [show k = b7 from hk]; exact ⟨hb71, trivial⟩) (.any (fun k hk => by rw [show k = b6 from hk]; exact ⟨hb61, trivial⟩) (.any (fun k hk => by rw [show k = b5 from hk]; exact ⟨hb51, trivial⟩) (.any (fun k hk => by rw [show k = bs_ from hk]; exact ⟨hbs1, trivial⟩) (.any (fun k hk => by rw [show k = bo from hk]; exact ⟨hbo1, trivial⟩) (.any (fun k hk => by rw [show k = bO from hk]; exact ⟨hbO, trivial⟩) (.any (fun k hk => by rw [show k = bp from hk]; exact ⟨hbp1, trivial⟩) (.any (fun k hk => by rw [show k = bc from hk]; exact ⟨hbc, trivial⟩) (.any (fun k hk => by rw [show k = bm from hk]; exact ⟨hbm, trivial⟩) Thin.same)))))))))⟩
      · have htr : (operT p.1.term).all (g k p.1.ins.length) = true := by simpa using h3
        apply W.skip
        with_reducible apply At.in_normal
        with_reducible apply At.next
        apply W.reg
        apply obn; rfl; rfl; rfl; apply Bin.add_in; omega
        apply omv; rfl; rfl
        apply OL.nil
        refine At.again (k + 1) ⟨by omega, fun k' b hk' hb' => ?_⟩ (by omega) (by exact Sub.au) (fun w' hw' => hw'.thin (.any (fun k hk => by rw [show k = b7 from hk]; exact ⟨hb71, trivial⟩) (.any (fun k hk => by rw [show k = b6 from hk]; exact ⟨hb61, trivial⟩) (.any (fun k hk => by rw [show k = b5 from hk]; exact ⟨hb51, trivial⟩) Thin.same))))
        by_cases em : k' = k
        · subst em
          rw [hbsk] at hb'
          obtain rfl := Option.some.inj hb'
          exact ⟨fun n i hi v hv => hn0 n i (List.getElem?_eq_some_iff.1 hi).1 hi v hv, List.all_eq_true.1 htr⟩
        · exact hk0 k' b (by omega) hb'
  · obtain rfl : k = es.length := by omega
    refine W.xt ?_
    with_reducible apply At.next
    apply W.sr
    apply oas; rfl; rfl
    apply OL.nx
    apply W.ret
    ((with_reducible apply At.fin1); rfl; rfl; intro w' hw')
    exact ⟨0, rfl, .inl rfl, ⟨fun _ k b hb => (hfin k b hb).2 (hk0 k b (by have := (List.getElem?_eq_some_iff.1 hb).1; omega) hb), fun _ => rfl⟩, hw'.thin (.any (fun k hk => by rw [show k = bs_ from hk]; exact ⟨hbs1, trivial⟩) (.any (fun k hk => by rw [show k = bo from hk]; exact ⟨hbo1, trivial⟩) (.any (fun k hk => by rw [show k = bO from hk]; exact ⟨hbO, trivial⟩) (.any (fun k hk => by rw [show k = bp from hk]; exact ⟨hbp1, trivial⟩) (.any (fun k hk => by rw [show k = bc from hk]; exact ⟨hbc, trivial⟩) (.any (fun k hk => by rw [show k = bm from hk]; exact ⟨hbm, trivial⟩) Thin.same))))))⟩
theorem CheckFunc_calls (fn : Go.Ss.Fn) (y : FnY) (w : World) (hfn : FnOk w (low w) fn y) :
    Calls Try.prog 30 [.agg (fnC fn y).toArray].toArray w fun e w' => e = .returned (.int .i64 (funcE fn)) ∧ Ext w w' := by
  obtain ⟨es, hes, he⟩ := hfn.b
  obtain ⟨nm, bs⟩ := fn
  obtain ⟨q, cap⟩ := y
  have hbl := hfn.bl
  simp only at hes he hbl
  have hbl2 : bs.length = es.length := by rw [← hes, List.length_map]
  refine enter Try.func30 rfl Try.ntmps30 rfl (Cls.start w) ?_
  (simp only [argEnv, Nat.zero_add, Nat.reduceAdd])
  simp only [fnC]
  rw [hbl2]
  apply W.sr
  apply OL.box; rfl; rfl; exact CellsL.agg; (intro bk hbk; simp only [AllLe, and_true] at hbk)
  apply oas; rfl; rfl
  apply OL.nsr
  apply oas; rfl; rfl
  apply OL.nx
  apply W.seq
  apply W.sr
  apply ofa; rfl; rfl; rfl
  apply old; rfl; rfl; exact .head _; rfl; rfl
  apply oop; rfl; apply Pev.len_slice; rfl; exact yes; rfl
  apply omv; rfl; rfl
  apply OL.nx
  apply W.block
  revert bk
  intro bF hbF
  have hbF1 : w.heap.size ≤ bF := by first | exact hbF | exact hbF.1
  refine W.loop (G := Nat × Int) (fun z => z.1 ≤ es.length ∧ (es.length ≤ 128 → z.2 = (insAll (bs.take z.1) : Int)) ∧ insAll (bs.take z.1) ≤ z.1 * 140737488355328) (fun z => es.length - z.1)
    (fun z => [(1, true, .pointer (some ⟨bF, 0, none⟩)), (3, true, .int .i64 z.2), (10, true, .slice q es.length cap), (11, true, .int .i64 (es.length : Int)), (12, true, .int .i64 (z.1 : Int))])
    (fun _ => Cls [blk bF 24 [.int .i64 nm, .slice q es.length cap]] [w]) (0, 0) ⟨by simp, fun _ => by simp [insAll], by simp [insAll]⟩ (by exact Sub.au) (fun w' hw' => hw') ?_
  rintro ⟨k, z⟩ ⟨hk, hz, hz2⟩
  simp only at hk hz hz2 ⊢
  apply W.sr
  apply obn; rfl; rfl; rfl; apply Bin.lss
  apply OL.nx
  apply W.seq
  (refine W.cnd (fun hlt => ?_) (fun hlt => ?_)) <;> (try (exfalso; first | omega | exact hlt trivial | contradiction))
  · have hkl : k < es.length := by omega
    obtain ⟨a, p, hqa, hab, hp, hcell, hok⟩ := he.get hkl
    have hab : a.block < w.heap.size := hab
    have hcell : CellsAt w (a.add (k * 7)) [.slice p.2.p.1 p.1.params.length p.2.p.2, .slice p.2.i.1 p.1.ins.length p.2.i.2, .int .i64 p.1.term.kind, .int .i64 p.1.term.arg, .int .i64 p.1.term.n, .slice p.2.t.c.1 p.1.term.cases.length p.2.t.c.2, .slice p.2.t.t.1 p.1.term.to_.length p.2.t.t.2] := hcell
    have hbsk : bs[k]? = some p.1 := by rw [← hes, List.getElem?_map, hp]; rfl
    have hil := hok.il
    have hins : insAll (bs.take (k + 1)) = insAll (bs.take k) + p.1.ins.length := by
      unfold insAll
      rw [List.take_add_one, hbsk]
      simp
    rw [hqa]
    apply W.sk
    apply W.sb
    apply W.sr
    apply oop; rfl; apply Pev.idx; rfl; exact yes; rfl; exact yes; rfl; rfl; intro hcond; omega
    apply oop; rfl; apply Pev.load_keptA; rfl; exact yes; exact .head _; rfl; intro hcond; assumption; rfl; intro hcond; (rw [add_block]; assumption); intro hcond; exact NotOwned.au
    apply OL.alloc; rfl; rfl; exact CellsL.agg; (intro bk hbk; simp only [AllLe, and_true] at hbk)
    apply OL.storeB; rfl; rfl; exact CellsL.agg; rfl; rfl; rfl; exact Swap.au; exact Put.au
    apply OL.nx
    apply W.reg
    apply omv; rfl; rfl
    apply ofa; rfl; rfl; rfl
    apply old; rfl; rfl; exact .head _; rfl; rfl
    apply oop; rfl; apply Pev.len_slice; rfl; exact yes; rfl
    apply obn; rfl; rfl; rfl; apply Bin.add
    apply oas; rfl; rfl
    apply OL.nil
    with_reducible apply At.in_normal
    with_reducible apply At.next
    apply W.reg
    apply obn; rfl; rfl; rfl; apply Bin.add_in; omega
    apply omv; rfl; rfl
    apply OL.nil
    have hle : es.length ≤ 128 → IntKind.i64.wrap (z + (p.1.ins.length : Int)) = ((insAll (bs.take (k + 1)) : Nat) : Int) := fun h => by
      have h1 := hz h
      rw [IntWalk.i64_in _ (by rw [h1]; omega), h1, hins]
      omega
    refine At.again (k + 1, IntKind.i64.wrap (z + (p.1.ins.length : Int))) ⟨by simp only; omega, hle, by rw [hins]; simp only; omega⟩ (by simp only; omega) (by exact Sub.au) (fun w' hw' => hw'.thin (by exact Thin.au))
  obtain rfl : k = es.length := by omega
  rw [← hbl2, List.take_length] at hz hz2
  refine W.xt ?_
  with_reducible apply At.next
  apply W.sb
  apply W.sr
  apply ofa; rfl; rfl; rfl
  apply old; rfl; rfl; exact .head _; rfl; rfl
  apply oop; rfl; apply Pev.len_slice; rfl; exact yes; rfl
  apply obn; rfl; rfl; rfl; apply Bin.eql
  apply oas; rfl; rfl
  apply OL.nx
  (refine W.cnd (fun h1 => ?_) (fun h1 => ?_)) <;> (try (exfalso; first | omega | exact h1 trivial | contradiction))
  · have hF : funcE ⟨nm, bs⟩ = 3 := by
      unfold funcE
      rw [if_pos (by simp only; omega)]
    apply W.sr
    apply oas; rfl; rfl
    apply OL.nx
    refine W.rt ?_
    ((with_reducible apply At.fin1); rfl; rfl; intro w' hw')
    rw [hF]
    exact ⟨rfl, by (exact hw'.fr)⟩
  obtain ⟨a, p, hqa, hab, hp, hcell, hok⟩ := he.get (show 0 < es.length by omega)
  have hab : a.block < w.heap.size := hab
  have hcell : CellsAt w (a.add (0 * 7)) [.slice p.2.p.1 p.1.params.length p.2.p.2, .slice p.2.i.1 p.1.ins.length p.2.i.2, .int .i64 p.1.term.kind, .int .i64 p.1.term.arg, .int .i64 p.1.term.n, .slice p.2.t.c.1 p.1.term.cases.length p.2.t.c.2, .slice p.2.t.t.1 p.1.term.to_.length p.2.t.t.2] := hcell
  have hg0 : bs.getD 0 noB = p.1 := by rw [List.getD_eq_getElem?_getD, ← hes, List.getElem?_map, hp]; rfl
  have hqe : q = some a := hqa
  rw [hqa]
  apply W.sr
  apply ofa; rfl; rfl; rfl
  apply old; rfl; rfl; exact .head _; rfl; rfl
  apply oop; rfl; apply Pev.len_slice; rfl; exact yes; rfl
  apply obn; rfl; rfl; rfl; apply Bin.gtr
  apply omv; rfl; rfl
  apply ono; rfl; rfl; rfl; apply Pev.move; rfl; exact yes
  apply ono; rfl; rfl; rfl; apply Pev.bin; rfl; exact fun h => h; rfl; exact yes; intro hcond; apply Bin.gtr
  apply oop; rfl; apply Pev.pick_or; rfl; exact yes; rfl; exact fun h => h
  apply omv; rfl; rfl
  apply ono; rfl; rfl; rfl; apply Pev.fld; rfl; exact yes; rfl
  apply ono; rfl; rfl; rfl; apply Pev.load_blk; rfl; exact fun h => h; exact .head _; rfl; rfl
  apply ono; rfl; rfl; rfl; apply Pev.idx; rfl; exact fun h => h; rfl; exact yes; rfl; rfl; intro hcond; (simp only [Bool.and_eq_true, Bool.or_eq_true, Bool.not_eq_true', decide_eq_true_eq, decide_eq_false_iff_not] at *; omega)
  apply ono; rfl; rfl; rfl; apply Pev.fldA; rfl; exact fun h => h; rfl
  apply ono; rfl; rfl; rfl; apply Pev.load_kept; rfl; exact fun h => h; exact .head _; rfl; intro hcond; apply CellsAt.at_ (by assumption) rfl; intro hcond; assumption; intro hcond; exact NotOwned.au
  apply ono; rfl; rfl; rfl; apply Pev.len_slice; rfl; exact fun h => h; rfl
  apply ono; rfl; rfl; rfl; apply Pev.bin; rfl; exact fun h => h; rfl; exact yes; intro hcond; apply Bin.gtr
  apply oop; rfl; apply Pev.pick_or; rfl; exact yes; rfl; exact fun h => h
  apply oas; rfl; rfl
  apply OL.nx
  refine W.cond rfl (fun h2 => ?_) (fun h2 => ?_)
  · have hF : funcE ⟨nm, bs⟩ = 2 := by
      unfold funcE
      rw [if_neg (by simp only; omega), if_pos ?_]
      simp only
      rw [hg0]
      simp at h2
      by_cases h3 : 128 < es.length
      · exact .inl (by omega)
      · have := hz (by omega)
        right
        rcases h2 with (h2 | h2) | h2
        · omega
        · left; omega
        · right; omega
    apply W.sr
    apply oas; rfl; rfl
    apply OL.nx
    refine W.rt ?_
    ((with_reducible apply At.fin1); rfl; rfl; intro w' hw')
    rw [hF]
    exact ⟨rfl, by (exact hw'.fr)⟩
  have h3 : es.length ≤ 128 := by simp at h2; omega
  have h2' : ¬ (128 < bs.length ∨ 1024 < insAll bs ∨ 6 < (bs.getD 0 noB).params.length) := by
    have := hz (by omega)
    rw [hg0]
    simp at h2
    omega
  apply W.sr
  apply ofa; rfl; rfl; rfl
  apply old; rfl; rfl; exact .head _; rfl; rfl
  (((first | (with_reducible apply OL.op) | (with_reducible apply QL.op)); (exact Guard.au); rfl; rfl); (exact Pev.call (v := .bool (decide (-1 ≤ nm) && decide (nm ≤ 1048575))) rfl (by exact Args.au) (fun _ w2 hw2 => (within_calls nm (-1) 1048575 w2).mono (fun e w3 h => ⟨h.1, hw2.ext h.2⟩))))
  apply oop; rfl; apply Pev.not; rfl; exact yes
  apply oas; rfl; rfl
  apply OL.nx
  refine W.cond rfl (fun h4 => ?_) (fun h4 => ?_)
  · have hF : funcE ⟨nm, bs⟩ = 4 := by
      unfold funcE
      rw [if_neg (by simp only; omega), if_neg h2', if_pos (by simp at h4; simp only; omega)]
    apply W.sr
    apply oas; rfl; rfl
    apply OL.nx
    refine W.rt ?_
    ((with_reducible apply At.fin1); rfl; rfl; intro w' hw')
    rw [hF]
    exact ⟨rfl, by (exact hw'.fr)⟩
  have hF : (¬ shapeE bs = 0 → funcE ⟨nm, bs⟩ = shapeE bs) ∧ (shapeE bs = 0 → ∀ r : Int, (r = 0 ∨ r = 6) → (r = 0 ↔ ∀ (k : Nat) b, bs[k]? = some b → UsesB bs k b) → r = funcE ⟨nm, bs⟩) := by
    constructor
    · intro h5
      unfold funcE
      rw [if_neg (by simp only; omega), if_neg h2', if_neg (by simp at h4; simp only; omega), if_pos h5]
    · intro h5 r hr hi
      unfold funcE
      rw [if_neg (by simp only; omega), if_neg h2', if_neg (by simp at h4; simp only; omega), if_neg (fun h => h h5)]
      split
      · rename_i h6; exact hi.2 h6
      · rename_i h6
        rcases hr with hr | hr
        · exact absurd (hi.1 hr) h6
        · exact hr
  apply W.skip
  with_reducible apply At.in_normal
  with_reducible apply At.next
  apply W.sr
  apply oop; rfl; apply Pev.load_blkA; rfl; exact yes; exact .head _; rfl; exact Take.au
  apply OL.imakeMap; rfl; rfl; (intro bk hbk; simp only [AllLe, and_true] at hbk)
  apply oop; rfl; apply Pev.build; rfl; exact CellsL.agg; rfl; exact Fill.au; rfl
  apply OL.box; rfl; rfl; exact CellsL.agg; (intro bk hbk; simp only [AllLe, and_true] at hbk)
  apply oas; rfl; rfl
  apply OL.nx
  apply W.seq
  apply W.sr
  apply ofa; rfl; rfl; rfl
  apply old; rfl; rfl; exact .tail _ (.tail _ (.head _)); rfl; rfl
  apply oop; rfl; apply Pev.len_slice; rfl; exact yes; rfl
  apply omv; rfl; rfl
  apply OL.nx
  apply W.block
  rename_i bm hbm0
  revert bk
  intro bc hbc0
  have hbm1 : w.heap.size ≤ bm := by first | exact hbm0 | exact hbm0.1
  have hbc1 : w.heap.size ≤ bc := by first | exact hbc0 | exact hbc0.1
  rw [hqe] at he
  have hsz : ∀ k, firstR (fun k => blockE bs (defsF (bs.take k)) (bs.getD k noB)) k = 0 → blockE bs (defsF (bs.take k)) (bs.getD k noB) ≠ 0 → k < bs.length → shapeE bs = blockE bs (defsF (bs.take k)) (bs.getD k noB) := fun k h5 h6 h7 => by
    unfold shapeE
    exact firstR_at (g := fun k => blockE bs (defsF (bs.take k)) (bs.getD k noB)) h7 h5 h6
  refine W.loop (G := Nat) (fun k => k ≤ es.length ∧ firstR (fun k => blockE bs (defsF (bs.take k)) (bs.getD k noB)) k = 0) (fun k => es.length - k)
    (fun k => [(6, true, .pointer (some ⟨bc, 0, none⟩)), (56, true, .int .i64 (es.length : Int)), (57, true, .int .i64 (k : Int))])
    (fun k => Cls [blk bc 124 [.int .i64 nm, .slice (some a) es.length cap, .map (some bm)], mapI bm (plM (plF (bs.take k) 0))] [w]) 0 ⟨by omega, rfl⟩ (by exact Sub.au) (fun w' hw' => hw'.thin (by exact Thin.au)) ?_
  rintro k ⟨hk, hk0⟩
  apply W.sr
  apply obn; rfl; rfl; rfl; apply Bin.lss
  apply OL.nx
  apply W.seq
  (refine W.cnd (fun hlt => ?_) (fun hlt => ?_)) <;> (try (exfalso; first | omega | exact hlt trivial | contradiction))
  · have hkl : k < es.length := by omega
    have hB := fun w2 => block_calls w bc bm nm es (some a) cap he (by omega) k hkl [] w2 (fun k hk => NotOwned.nil) hbc1 hbm1
    simp only [hes] at hB
    have hnx : blockE bs (defsF (bs.take k)) (bs.getD k noB) = 0 → firstR (fun k => blockE bs (defsF (bs.take k)) (bs.getD k noB)) (k + 1) = 0 := fun h => firstR_next hk0 h
    have hbd := hsz k hk0
    generalize blockE bs (defsF (bs.take k)) (bs.getD k noB) = er at hB hnx hbd
    apply W.sk
    apply W.sb
    apply W.sr
    apply omv; rfl; rfl
    apply oas; rfl; rfl
    apply OL.nsr
    apply omv; rfl; rfl
    apply omv; rfl; rfl
    refine OL.callE (α := PL) (fun _ => .int .i64 er) (fun mp => er = 0 → mp = plF (bs.take (k + 1)) 0) (fun mp => Cls [blk bc 124 [.int .i64 nm, .slice (some a) es.length cap, .map (some bm)], mapI bm (plM mp)] [w]) rfl rfl (by exact Args.au) (fun w2 hw2 => (hB w2 hw2).mono fun e w3 ⟨mp, h5, h6, h7⟩ => ⟨mp, h5, h6, h7⟩) ?_
    intro mp hmp
    apply oas; rfl; rfl
    apply OL.nsr
    apply omv; rfl; rfl
    apply obn; rfl; rfl; rfl; apply Bin.neq
    apply OL.nx
    (refine W.cnd (fun hne => ?_) (fun hne => ?_)) <;> (try (exfalso; first | omega | exact hne trivial | contradiction))
    · have hF1 := hF.1 (by rw [hbd hne (by omega)]; exact hne)
      rw [hF1, hbd hne (by omega)]
      apply W.sr
      apply omv; rfl; rfl
      apply oas; rfl; rfl
      apply OL.nx
      refine W.rt ?_
      ((with_reducible apply At.fin1); rfl; rfl; intro w' hw')
      exact ⟨rfl, (hw'.thin (.any (fun k hk => by rw [show k = bc from hk]; exact ⟨hbc1, trivial⟩) (.any (fun k hk => by rw [show k = bm from hk]; exact ⟨hbm1, trivial⟩) Thin.same))).fr (by exact mau) (fun k hk => NotOwned.nil)⟩
    · have he0 : er = 0 := by simpa using hne
      rw [hmp he0]
      apply W.skip
      with_reducible apply At.in_normal
      with_reducible apply At.next
      apply W.reg
      apply obn; rfl; rfl; rfl; apply Bin.add_in; omega
      apply omv; rfl; rfl
      apply OL.nil
      exact At.again (k + 1) ⟨by omega, hnx he0⟩ (by omega) (by exact Sub.au) (fun w' hw' => hw')
  obtain rfl : k = es.length := by omega
  have hs0 : shapeE bs = 0 := by
    unfold shapeE
    rw [hbl2]
    exact hk0
  rw [← hbl2, List.take_length, hbl2]
  have hU := fun w2 => uses_calls w bc bm nm es (some a) cap he (by omega) h3 (by rw [hes]; exact hs0) [] w2 (fun k hk => NotOwned.nil) hbc1 hbm1
  simp only [hes] at hU
  refine W.xt ?_
  with_reducible apply At.next
  apply W.sr
  apply omv; rfl; rfl
  refine OL.callE (α := Int) (fun r => .int .i64 r) (fun r => r = funcE ⟨nm, bs⟩) (fun _ => Cls [] [w]) rfl rfl (by exact Args.au) (fun w2 hw2 => (hU w2 hw2).mono fun e w3 ⟨r, h5, h6, h7, h8⟩ => ⟨r, h5, hF.2 hs0 r h6 h7, h8⟩) ?_
  rintro r rfl
  apply oas; rfl; rfl
  apply OL.nx
  apply W.ret
  ((with_reducible apply At.fin1); rfl; rfl; intro w' hw')
  exact ⟨rfl, by (exact hw'.fr)⟩
end Go.Proofs.Ytehelljmaiophaa.ss

/- The walks of the reference's defErr, termErr and shapeErr. Conditions: none. -/
namespace Go.Proofs.Ytehelljmaiophaa.ss
set_option maxRecDepth 100000
open Go.Eng Go.RowKit Go.Ss
theorem defErr_calls (v : Int) (q : Option Addr) (cap : Nat) (l : List Int) (w : World) (hlen : l.length ≤ 9223372036854775807) (h : IntsO w (low w) l q) :
    Calls Try.prog 99 #[.int .i64 v, .slice q l.length cap] w fun e w' => e = .returned (.int .i64 (defE v l)) ∧ Ext w w' := by
  refine enter Try.func99 rfl Try.ntmps99 rfl (Cls.start w) ?_
  (simp only [argEnv, Nat.zero_add, Nat.reduceAdd])
  apply W.sr
  apply oas; rfl; rfl
  apply OL.nx
  apply W.seq
  apply W.sr
  apply omv; rfl; rfl
  (((first | (with_reducible apply OL.op) | (with_reducible apply QL.op)); (exact Guard.au); rfl; rfl); (exact Pev.call (v := .bool (decide (0 ≤ v) && decide (v ≤ 4095))) rfl (by exact Args.au) (fun _ w2 hw2 => (Within_calls v 0 4095 w2).mono (fun e w3 h => ⟨h.1, hw2.ext h.2⟩))))
  apply oop; rfl; apply Pev.not; rfl; exact yes
  apply OL.nx
  refine W.cond rfl (fun h1 => ?_) (fun h1 => ?_)
  · have hd : defE v l = 4 := by
      unfold defE
      rw [if_pos (by simp at h1; omega)]
    apply W.sr
    apply oas; rfl; rfl
    apply OL.nx
    refine W.rt ?_
    ((with_reducible apply At.fin1); rfl; rfl; intro w' hw')
    rw [hd]
    exact ⟨rfl, by (exact hw'.fr)⟩
  apply W.sk
  apply W.seq
  apply W.sr
  apply omv; rfl; rfl
  apply omv; rfl; rfl
  (((first | (with_reducible apply OL.op) | (with_reducible apply QL.op)); (exact Guard.au); rfl; rfl); (exact Pev.call (v := .bool (decide (v ∈ l))) rfl (by exact Args.au) (fun _ w2 hw2 => (HasInt_calls q cap l v w2 hlen (h.at hw2 (by exact mau) (fun k hk => by exact NotOwned.au))).mono (fun e w3 h => ⟨h.1, hw2.ext h.2⟩))))
  apply OL.nx
  refine W.cond rfl (fun h2 => ?_) (fun h2 => ?_)
  · have hd : defE v l = 7 := by
      unfold defE
      rw [if_neg (by simp at h1; omega), if_pos (by simpa using h2)]
    apply W.sr
    apply oas; rfl; rfl
    apply OL.nx
    refine W.rt ?_
    ((with_reducible apply At.fin1); rfl; rfl; intro w' hw')
    rw [hd]
    exact ⟨rfl, by (exact hw'.fr)⟩
  · have hd : defE v l = 0 := by
      unfold defE
      rw [if_neg (by simp at h1; omega), if_neg (by simpa using h2)]
    apply W.sk
    apply W.sr
    apply oas; rfl; rfl
    apply OL.nx
    apply W.ret
    ((with_reducible apply At.fin1); rfl; rfl; intro w' hw')
    rw [hd]
    exact ⟨rfl, by (exact hw'.fr)⟩
def edN (t : Tm) : Int := if t.kind = 0 then 0 else if t.kind = 1 then 1 else if t.kind = 2 then 2 else if t.kind = 3 then (t.cases.length : Int) + 1 else 0
theorem edN_get {t : Tm} (h0 : 0 ≤ t.kind) (h4 : t.kind ≤ 4) : ([.int .i64 0, .int .i64 1, .int .i64 2, .int .i64 ((t.cases.length : Int) + 1), .int .i64 0] : List Value)[0 + t.kind.toNat * 1]? = some (.int .i64 (edN t)) := by
  unfold edN
  obtain h | h | h | h | h : t.kind = 0 ∨ t.kind = 1 ∨ t.kind = 2 ∨ t.kind = 3 ∨ t.kind = 4 := by omega
  all_goals rw [h]; simp
theorem termErr_calls (es : List (Bk × BkY)) (q : Option Addr) (cap : Nat) (nm : Int) (t : Tm) (y : TmY) (w : World) (he : Arr bkR w (low w) es q) (hlen : es.length ≤ 140737488355328) (ht : TmOk w (low w) t y) :
    Calls Try.prog 101 [.agg #[.int .i64 nm, .slice q es.length cap], .agg (tmC t y).toArray].toArray w fun e w' => e = .returned (.int .i64 (termE (es.map Prod.fst) t)) ∧ Ext w w' := by
  obtain ⟨bs, hbs⟩ : ∃ bs, es.map Prod.fst = bs := ⟨_, rfl⟩
  have hbl : bs.length = es.length := by rw [← hbs, List.length_map]
  obtain ⟨ts, hts, harr⟩ := ht.t
  have htl := ht.tl
  have hcl := ht.cl
  have htl2 : t.to_.length = ts.length := by rw [← hts, List.length_map]
  rw [hbs]
  refine enter Try.func101 rfl Try.ntmps101 rfl (Cls.start w) ?_
  (simp only [argEnv, Nat.zero_add, Nat.reduceAdd])
  simp only [tmC]
  apply W.sr
  apply OL.box; rfl; rfl; exact CellsL.agg; (intro bk hbk; simp only [AllLe, and_true] at hbk)
  apply OL.box; rfl; rfl; exact CellsL.agg; (intro bk hbk; simp only [AllLe, and_true] at hbk)
  apply oas; rfl; rfl
  apply OL.nsr
  apply ofa; rfl; rfl; rfl
  apply old; rfl; rfl; exact .head _; rfl; rfl
  apply oop; rfl; apply Pev.len_slice; rfl; exact yes; rfl
  apply obn; rfl; rfl; rfl; apply Bin.add_in; omega
  apply OL.buildSlice; rfl; rfl; rfl; exact Elems.au; rfl; rfl; (intro bk hbk; simp only [AllLe, and_true] at hbk)
  apply oas; rfl; rfl
  apply OL.nx
  apply W.seq
  apply W.seq
  apply W.regd0; decide +kernel; kernel_rfl; decide +kernel; exact fun w hw => hw.drew
  apply qfa; rfl; rfl; rfl
  apply qld; rfl; rfl; exact .tail _ (.head _); rfl; rfl
  rename_i bF hbF bT hbT
  revert bk
  intro bE hbE
  (((first | (with_reducible apply OL.op) | (with_reducible apply QL.op)); (exact Guard.au); rfl; rfl); (exact Pev.call (v := .bool (decide (0 ≤ t.kind) && decide (t.kind ≤ 4))) rfl (by exact Args.au) (fun _ w2 hw2 => (Within_calls t.kind 0 4 w2).mono (fun e w3 h => ⟨h.1, hw2.ext h.2⟩))))
  apply qop; rfl; apply Pev.not; rfl; exact yes
  apply qmv; rfl; rfl
  apply qno; rfl; rfl; rfl; apply Pev.fld; rfl; exact yes; rfl
  apply qno; rfl; rfl; rfl; apply Pev.load_blk; rfl; exact fun h => h; exact .tail _ (.head _); rfl; rfl
  apply qno; rfl; rfl; rfl; apply Pev.len_slice; rfl; exact fun h => h; rfl
  apply qno; rfl; rfl; rfl; apply Pev.move; rfl; exact yes
  apply qno; rfl; rfl; rfl; apply Pev.fld; rfl; exact yes; rfl
  apply qno; rfl; rfl; rfl; apply Pev.load_blk; rfl; exact fun h => h; exact .tail _ (.head _); rfl; rfl
  (((first | (with_reducible apply OL.op) | (with_reducible apply QL.op)); (exact Guard.au); rfl; rfl); (refine Pev.idxB rfl (by (first | exact fun _ => rfl | exact fun h => h | (intro h; simp_all; done))) rfl (by (first | exact fun _ => rfl | exact fun h => h | (intro h; simp_all; done))) rfl (fun hcc => ?_) rfl))
  · simp at hcc
    omega
  skip
  (((first | (with_reducible apply OL.op) | (with_reducible apply QL.op)); (exact Guard.au); rfl; rfl); (refine Pev.load_cls (v := .int .i64 (edN t)) rfl (by (first | exact fun _ => rfl | exact fun h => h | (intro h; simp_all; done))) rfl (fun hcc w2 hw2 => ?_)))
  · simp at hcc
    rw [blk_cell (hw2.item (i := blk bE 3 _) (by exact mau))]
    exact edN_get hcc.1 hcc.2
  apply qno; rfl; rfl; rfl; apply Pev.bin; rfl; exact fun h => h; rfl; exact fun h => h; intro hcond; apply Bin.neq
  apply qop; rfl; apply Pev.pick_or; rfl; exact yes; rfl; exact fun h => h
  apply QL.nil
  with_reducible apply At.next
  have hsh : shapeT t = false ↔ (¬ (0 ≤ t.kind ∧ t.kind ≤ 4) ∨ ¬ (t.to_.length : Int) = edN t) ∨ ((t.kind ≠ 3 ∧ 0 < t.cases.length) ∨ (t.kind ≠ 4 ∧ t.n ≠ 0)) ∨ ((t.kind = 1 ∨ t.kind = 4) ∧ t.arg ≠ 0) := by
    unfold edN
    by_cases hk : 0 ≤ t.kind ∧ t.kind ≤ 4
    · obtain h | h | h | h | h : t.kind = 0 ∨ t.kind = 1 ∨ t.kind = 2 ∨ t.kind = 3 ∨ t.kind = 4 := by omega
      all_goals
        unfold shapeT
        rw [h]
        simp [-List.length_eq_zero_iff]
        omega
    · have : shapeT t = false := by
        unfold shapeT
        rw [if_neg (by omega), if_neg (by omega), if_neg (by omega), if_neg (by omega), if_neg (by omega)]
      exact ⟨fun _ => .inl (.inl hk), fun _ => this⟩
  refine W.cond rfl (fun h1 => ?_) (fun h1 => ?_)
  · have hE : termE bs t = 3 := by
      unfold termE
      rw [if_pos (hsh.2 (.inl ?_))]
      simp [-List.length_eq_zero_iff] at h1
      omega
    apply W.sr
    apply oas; rfl; rfl
    apply OL.nx
    refine W.rt ?_
    ((with_reducible apply At.fin1); rfl; rfl; intro w' hw')
    rw [hE]
    exact ⟨rfl, by (exact hw'.fr)⟩
  apply W.sk
  apply W.seq
  apply W.sr
  apply ofa; rfl; rfl; rfl
  apply old; rfl; rfl; exact .tail _ (.head _); rfl; rfl
  apply obn; rfl; rfl; rfl; apply Bin.neq
  apply omv; rfl; rfl
  apply oy; rfl; rfl; rfl; apply Pev.fld; rfl; exact yes; rfl
  apply oy; rfl; rfl; rfl; apply Pev.load_blk; rfl; exact fun h => h; exact .tail _ (.head _); rfl; rfl
  apply oy; rfl; rfl; rfl; apply Pev.len_slice; rfl; exact fun h => h; rfl
  apply oy; rfl; rfl; rfl; apply Pev.bin; rfl; exact fun h => h; rfl; exact yes; intro hcond; apply Bin.gtr
  apply oop; rfl; apply Pev.pick_and; rfl; exact yes; rfl; exact fun h => h
  apply omv; rfl; rfl
  apply ono; rfl; rfl; rfl; apply Pev.fld; rfl; exact yes; rfl
  apply ono; rfl; rfl; rfl; apply Pev.load_blk; rfl; exact fun h => h; exact .tail _ (.head _); rfl; rfl
  apply ono; rfl; rfl; rfl; apply Pev.bin; rfl; exact fun h => h; rfl; exact yes; intro hcond; apply Bin.neq
  apply ono; rfl; rfl; rfl; apply Pev.move; rfl; exact fun h => h
  apply OL.op; exact Guard.cyes rfl rfl; rfl; rfl; apply Pev.fld; rfl; exact yes; rfl
  apply OL.op; exact Guard.cyes rfl rfl; rfl; rfl; apply Pev.load_blk; rfl; exact fun h => h; exact .tail _ (.head _); rfl; rfl
  apply OL.op; exact Guard.cyes rfl rfl; rfl; rfl; apply Pev.bin; rfl; exact fun h => h; rfl; exact yes; intro hcond; apply Bin.neq
  apply ono; rfl; rfl; rfl; apply Pev.pick_and; rfl; exact fun h => h; rfl; exact fun h => h
  apply oop; rfl; apply Pev.pick_or; rfl; exact yes; rfl; exact fun h => h
  apply omv; rfl; rfl
  apply ono; rfl; rfl; rfl; apply Pev.fld; rfl; exact yes; rfl
  apply ono; rfl; rfl; rfl; apply Pev.load_blk; rfl; exact fun h => h; exact .tail _ (.head _); rfl; rfl
  apply ono; rfl; rfl; rfl; apply Pev.bin; rfl; exact fun h => h; rfl; exact yes; intro hcond; apply Bin.eql
  apply ono; rfl; rfl; rfl; apply Pev.move; rfl; exact fun h => h
  apply OL.op; exact Guard.cno rfl rfl; rfl; rfl; apply Pev.fld; rfl; exact yes; rfl
  apply OL.op; exact Guard.cno rfl rfl; rfl; rfl; apply Pev.load_blk; rfl; exact fun h => h; exact .tail _ (.head _); rfl; rfl
  apply OL.op; exact Guard.cno rfl rfl; rfl; rfl; apply Pev.bin; rfl; exact fun h => h; rfl; exact yes; intro hcond; apply Bin.eql
  apply ono; rfl; rfl; rfl; apply Pev.pick_or; rfl; exact fun h => h; rfl; exact fun h => h
  apply ono; rfl; rfl; rfl; apply Pev.move; rfl; exact fun h => h
  apply OL.op; exact Guard.cyes rfl rfl; rfl; rfl; apply Pev.fld; rfl; exact yes; rfl
  apply OL.op; exact Guard.cyes rfl rfl; rfl; rfl; apply Pev.load_blk; rfl; exact fun h => h; exact .tail _ (.head _); rfl; rfl
  apply OL.op; exact Guard.cyes rfl rfl; rfl; rfl; apply Pev.bin; rfl; exact fun h => h; rfl; exact yes; intro hcond; apply Bin.neq
  apply ono; rfl; rfl; rfl; apply Pev.pick_and; rfl; exact fun h => h; rfl; exact fun h => h
  apply oop; rfl; apply Pev.pick_or; rfl; exact yes; rfl; exact fun h => h
  apply OL.nx
  refine W.cond rfl (fun h2 => ?_) (fun h2 => ?_)
  · have hE : termE bs t = 3 := by
      unfold termE
      rw [if_pos (hsh.2 (.inr ?_))]
      simp [-List.length_eq_zero_iff] at h2
      omega
    apply W.sr
    apply oas; rfl; rfl
    apply OL.nx
    refine W.rt ?_
    ((with_reducible apply At.fin1); rfl; rfl; intro w' hw')
    rw [hE]
    exact ⟨rfl, by (exact hw'.fr)⟩
  have h1' : ¬ shapeT t = false := by
    rw [hsh]
    simp [-List.length_eq_zero_iff] at h1 h2
    omega
  apply W.sk
  apply W.seq
  apply W.sr
  apply ofa; rfl; rfl; rfl
  apply old; rfl; rfl; exact .tail _ (.head _); rfl; rfl
  apply oop; rfl; apply Pev.len_slice; rfl; exact yes; rfl
  apply obn; rfl; rfl; rfl; apply Bin.gtr
  apply OL.nx
  (refine W.cnd (fun h3 => ?_) (fun h3 => ?_)) <;> (try (exfalso; first | omega | exact h3 trivial | contradiction))
  · apply W.sr
    apply oas; rfl; rfl
    apply OL.nx
    refine W.rt ?_
    ((with_reducible apply At.fin1); rfl; rfl; intro w' hw')
    unfold termE
    rw [if_neg h1', if_pos (by omega)]
    exact ⟨rfl, by (exact hw'.fr)⟩
  apply W.sk
  apply W.seq
  apply W.sr
  apply ofa; rfl; rfl; rfl
  apply old; rfl; rfl; exact .tail _ (.head _); rfl; rfl
  apply obn; rfl; rfl; rfl; apply Bin.eql
  apply omv; rfl; rfl
  apply oy; rfl; rfl; rfl; apply Pev.fld; rfl; exact yes; rfl
  apply oy; rfl; rfl; rfl; apply Pev.load_blk; rfl; exact fun h => h; exact .tail _ (.head _); rfl; rfl
  (((first | (with_reducible apply OL.op) | (with_reducible apply QL.op)); (exact Guard.au); rfl; rfl); (exact Pev.call (v := .bool (decide (1 ≤ t.n) && decide (t.n ≤ 6))) rfl (by exact Args.au) (fun _ w2 hw2 => (Within_calls t.n 1 6 w2).mono (fun e w3 h => ⟨h.1, hw2.ext h.2⟩))))
  apply oy; rfl; rfl; rfl; apply Pev.not; rfl; exact fun h => h
  apply oop; rfl; apply Pev.pick_and; rfl; exact yes; rfl; exact fun h => h
  apply OL.nx
  refine W.cond rfl (fun h4 => ?_) (fun h4 => ?_)
  · apply W.sr
    apply oas; rfl; rfl
    apply OL.nx
    refine W.rt ?_
    ((with_reducible apply At.fin1); rfl; rfl; intro w' hw')
    unfold termE
    rw [if_neg h1', if_neg (by omega), if_pos (by simp at h4; omega)]
    exact ⟨rfl, by (exact hw'.fr)⟩
  have hT : termE bs t = if ¬ firstR (caseE t.cases) t.cases.length = 0 then firstR (caseE t.cases) t.cases.length else firstE (edgeE bs) t.to_ := by
    unfold termE
    rw [if_neg h1', if_neg (by omega), if_neg (by simp at h4; omega)]
  rw [hT]
  apply W.sk
  apply W.seq
  apply W.sr
  apply ofa; rfl; rfl; rfl
  apply old; rfl; rfl; exact .tail _ (.head _); rfl; rfl
  apply oop; rfl; apply Pev.len_slice; rfl; exact yes; rfl
  apply omv; rfl; rfl
  apply OL.nx
  apply W.block
  refine W.loop (G := Nat) (fun k => k ≤ t.cases.length ∧ firstR (caseE t.cases) k = 0) (fun k => t.cases.length - k)
    (fun k => [(2, true, .pointer (some ⟨bF, 0, none⟩)), (3, true, .pointer (some ⟨bT, 0, none⟩)), (78, true, .slice y.c.1 t.cases.length y.c.2), (79, true, .int .i64 (t.cases.length : Int)), (80, true, .int .i64 (k : Int))])
    (fun _ => Cls [blk bT 39 [.int .i64 t.kind, .int .i64 t.arg, .int .i64 t.n, .slice y.c.1 t.cases.length y.c.2, .slice y.t.1 t.to_.length y.t.2], blk bF 24 [.int .i64 nm, .slice q es.length cap]] [w]) 0 ⟨by omega, rfl⟩ (by exact Sub.au) (fun w' hw' => hw'.thin (by exact Thin.au)) ?_
  rintro k ⟨hk, hk0⟩
  apply W.sr
  apply obn; rfl; rfl; rfl; apply Bin.lss
  apply OL.nx
  apply W.seq
  (refine W.cnd (fun hlt => ?_) (fun hlt => ?_)) <;> (try (exfalso; first | omega | exact hlt trivial | contradiction))
  · have hkl : k < t.cases.length := by omega
    obtain ⟨a, v, hqa, hab, hv, hcell⟩ := ht.c.get hkl
    have hab : a.block < w.heap.size := hab
    have hcc := ht.cc
    have hE : caseE t.cases k = if wordB v = false then 4 else if v ∈ t.cases.take k then 7 else 0 := by
      unfold caseE
      rw [List.getD_eq_getElem?_getD, hv, Option.getD_some]
    have herr : caseE t.cases k ≠ 0 → (if ¬ firstR (caseE t.cases) t.cases.length = 0 then firstR (caseE t.cases) t.cases.length else firstE (edgeE bs) t.to_) = caseE t.cases k := fun h => by
      have h5 := firstR_at hkl hk0 h
      rw [h5, if_pos h]
    have hIC : ∀ w2, Cls [blk bT 39 [.int .i64 t.kind, .int .i64 t.arg, .int .i64 t.n, .slice y.c.1 t.cases.length y.c.2, .slice y.t.1 t.to_.length y.t.2], blk bF 24 [.int .i64 nm, .slice q es.length cap]] [w] w2 → Calls Try.prog 32 #[.slice (some a) k y.c.2, .int .i64 v] w2 fun e w' => e = .returned (.bool (decide (v ∈ t.cases.take k))) ∧ Ext w2 w' := fun w2 hw2 => by
      have h6 := ht.c.at hw2 (by exact mau) (fun k hk => by exact NotOwned.au)
      have h7 := HasInt_calls y.c.1 y.c.2 (t.cases.take k) v w2 (by rw [List.length_take]; omega) (IntsO.take h6 k)
      rw [List.length_take, Nat.min_eq_left (by omega), hqa] at h7
      exact h7
    rw [hqa]
    rw [hqa] at hIC
    apply W.sk
    apply W.sb
    apply W.sr
    apply omv; rfl; rfl
    apply oop; rfl; apply Pev.idx; rfl; exact yes; rfl; exact yes; rfl; rfl; intro hcond; omega
    apply oop; rfl; apply Pev.load_kept; rfl; exact yes; exact .head _; rfl; intro hcond; assumption; intro hcond; (rw [add_block]; assumption); intro hcond; exact NotOwned.au
    apply oas; rfl; rfl
    apply oas; rfl; rfl
    apply OL.nx
    apply W.seq
    apply W.sr
    apply omv; rfl; rfl
    (((first | (with_reducible apply OL.op) | (with_reducible apply QL.op)); (exact Guard.au); rfl; rfl); (exact Pev.call (v := .bool (wordB v)) rfl (by exact Args.au) (fun _ w2 hw2 => (word_calls v w2).mono (fun e w3 h => ⟨h.1, hw2.ext h.2⟩))))
    apply oop; rfl; apply Pev.not; rfl; exact yes
    apply OL.nx
    (refine W.cnd (fun h4 => ?_) (fun h4 => ?_)) <;> (try (exfalso; first | omega | exact h4 trivial | contradiction))
    · have h5 : caseE t.cases k = 4 := by rw [hE, if_pos (by simpa using h4)]
      rw [herr (by rw [h5]; decide), h5]
      apply W.sr
      apply oas; rfl; rfl
      apply OL.nx
      refine W.rt ?_
      ((with_reducible apply At.fin1); rfl; rfl; intro w' hw')
      exact ⟨rfl, by (exact hw'.fr)⟩
    have h4' : ¬ wordB v = false := by simpa using h4
    apply W.sk
    apply W.sr
    apply ofa; rfl; rfl; rfl
    apply old; rfl; rfl; exact .head _; rfl; rfl
    apply omv; rfl; rfl
    apply oop; rfl; apply Pev.slice_hi; rfl; exact yes; rfl; exact yes; rfl; rfl; intro hcond; omega
    apply omv; rfl; rfl
    (((first | (with_reducible apply OL.op) | (with_reducible apply QL.op)); (exact Guard.au); rfl; rfl); (exact Pev.call (v := .bool (decide (v ∈ t.cases.take k))) rfl (by exact Args.au) (fun _ w2 hw2 => (hIC w2 hw2).mono (fun e w3 h => ⟨h.1, hw2.ext h.2⟩))))
    apply OL.nx
    (refine W.cnd (fun h5 => ?_) (fun h5 => ?_)) <;> (try (exfalso; first | omega | exact h5 trivial | contradiction))
    · have h6 : caseE t.cases k = 7 := by rw [hE, if_neg h4', if_pos (by simpa using h5)]
      rw [herr (by rw [h6]; decide), h6]
      apply W.sr
      apply oas; rfl; rfl
      apply OL.nx
      refine W.rt ?_
      ((with_reducible apply At.fin1); rfl; rfl; intro w' hw')
      exact ⟨rfl, by (exact hw'.fr)⟩
    · have h6 : caseE t.cases k = 0 := by rw [hE, if_neg h4', if_neg (by simpa using h5)]
      apply W.skip
      with_reducible apply At.in_normal
      with_reducible apply At.next
      apply W.reg
      apply obn; rfl; rfl; rfl; apply Bin.add_in; omega
      apply omv; rfl; rfl
      apply OL.nil
      exact At.again (k + 1) ⟨by omega, firstR_next hk0 h6⟩ (by omega) (by exact Sub.au) (fun w' hw' => hw')
  obtain rfl : k = t.cases.length := by omega
  rw [if_neg (fun h => h hk0), htl2]
  refine W.xt ?_
  with_reducible apply At.next
  apply W.seq
  apply W.sr
  apply ofa; rfl; rfl; rfl
  apply old; rfl; rfl; exact .head _; rfl; rfl
  apply oop; rfl; apply Pev.len_slice; rfl; exact yes; rfl
  apply omv; rfl; rfl
  apply OL.nx
  apply W.block
  refine W.loop (G := Nat) (fun j => j ≤ ts.length ∧ ∀ (m : Nat) e, m < j → t.to_[m]? = some e → edgeE bs e = 0) (fun j => ts.length - j)
    (fun j => [(2, true, .pointer (some ⟨bF, 0, none⟩)), (96, true, .slice y.t.1 ts.length y.t.2), (97, true, .int .i64 (ts.length : Int)), (98, true, .int .i64 (j : Int))])
    (fun _ => Cls [blk bT 39 [.int .i64 t.kind, .int .i64 t.arg, .int .i64 t.n, .slice y.c.1 t.cases.length y.c.2, .slice y.t.1 ts.length y.t.2], blk bF 24 [.int .i64 nm, .slice q es.length cap]] [w]) 0 ⟨by omega, fun m e hm => by omega⟩ (by exact Sub.au) (fun w' hw' => hw') ?_
  rintro j ⟨hj, hj0⟩
  apply W.sr
  apply obn; rfl; rfl; rfl; apply Bin.lss
  apply OL.nx
  apply W.seq
  (refine W.cnd (fun hlt2 => ?_) (fun hlt2 => ?_)) <;> (try (exfalso; first | omega | exact hlt2 trivial | contradiction))
  · obtain ⟨ae, u, hqt, hatb, hu, hcu, hoku⟩ := harr.get (show j < ts.length by omega)
    have hatb : ae.block < w.heap.size := hatb
    have hcu : CellsAt w (ae.add (j * 2)) [.int .i64 u.1.block, .slice u.2.1 u.1.args.length u.2.2] := hcu
    have hue : t.to_[j]? = some u.1 := by rw [← hts, List.getElem?_map, hu]; rfl
    have hul := hoku.2.1.1
    have herr : edgeE bs u.1 ≠ 0 → firstE (edgeE bs) t.to_ = edgeE bs u.1 := fun h => firstE_at hue hj0 h
    rw [hqt]
    apply W.sk
    apply W.sb
    apply W.sr
    apply oop; rfl; apply Pev.idx; rfl; exact yes; rfl; exact yes; rfl; rfl; intro hcond; omega
    apply oop; rfl; apply Pev.load_keptA; rfl; exact yes; exact .head _; rfl; intro hcond; assumption; rfl; intro hcond; (rw [add_block]; assumption); intro hcond; exact NotOwned.au
    apply OL.alloc; rfl; rfl; exact CellsL.agg; (intro bk hbk; simp only [AllLe, and_true] at hbk)
    apply OL.storeB; rfl; rfl; exact CellsL.agg; rfl; rfl; rfl; exact Swap.au; exact Put.au
    apply OL.nx
    apply W.seq
    apply W.sr
    apply ofa; rfl; rfl; rfl
    apply old; rfl; rfl; exact .head _; rfl; rfl
    apply ofa; rfl; rfl; rfl
    apply old; rfl; rfl; exact .tail _ (.tail _ (.head _)); rfl; rfl
    apply oop; rfl; apply Pev.len_slice; rfl; exact yes; rfl
    apply obn; rfl; rfl; rfl; apply Bin.sub_in; omega
    (((first | (with_reducible apply OL.op) | (with_reducible apply QL.op)); (exact Guard.au); rfl; rfl); (exact Pev.call (v := .bool (decide (1 ≤ u.1.block) && decide (u.1.block ≤ (es.length : Int) - 1))) rfl (by exact Args.au) (fun _ w2 hw2 => (Within_calls u.1.block 1 ((es.length : Int) - 1) w2).mono (fun e w3 h => ⟨h.1, hw2.ext h.2⟩))))
    apply oop; rfl; apply Pev.not; rfl; exact yes
    apply OL.nx
    refine W.cond rfl (fun h4 => ?_) (fun h4 => ?_)
    · have h5 : edgeE bs u.1 = 4 := by
        unfold edgeE
        rw [if_pos (by simp at h4; omega)]
      rw [herr (by rw [h5]; decide), h5]
      apply W.sr
      apply oas; rfl; rfl
      apply OL.nx
      refine W.rt ?_
      ((with_reducible apply At.fin1); rfl; rfl; intro w' hw')
      exact ⟨rfl, by (exact hw'.fr)⟩
    have h4' : 1 ≤ u.1.block ∧ u.1.block < (es.length : Int) := by simp at h4; omega
    obtain ⟨b, hbb⟩ : ∃ b : Nat, u.1.block = (b : Int) := ⟨u.1.block.toNat, by omega⟩
    have hbe : b < es.length := by omega
    obtain ⟨a2, p2, rfl, hab2, hp2, hcell2, hok2⟩ := he.get hbe
    have hab2 : a2.block < w.heap.size := hab2
    have hcell2 : CellsAt w (a2.add (b * 7)) [.slice p2.2.p.1 p2.1.params.length p2.2.p.2, .slice p2.2.i.1 p2.1.ins.length p2.2.i.2, .int .i64 p2.1.term.kind, .int .i64 p2.1.term.arg, .int .i64 p2.1.term.n, .slice p2.2.t.c.1 p2.1.term.cases.length p2.2.t.c.2, .slice p2.2.t.t.1 p2.1.term.to_.length p2.2.t.t.2] := hcell2
    have hgd : (bs.getD u.1.block.toNat ⟨[], [], ⟨0, 0, 0, [], []⟩⟩) = p2.1 := by
      rw [hbb, Int.toNat_natCast, List.getD_eq_getElem?_getD, ← hbs, List.getElem?_map, hp2]
      rfl
    have hE2 : edgeE bs u.1 = if u.1.args.length ≠ p2.1.params.length then 3 else 0 := by
      unfold edgeE
      rw [if_neg (by omega), hgd]
    rw [hbb]
    apply W.sk
    apply W.seq
    apply W.regd0; decide +kernel; kernel_rfl; decide +kernel; exact fun w hw => hw.drew
    apply qfa; rfl; rfl; rfl
    apply qld; rfl; rfl; exact .head _; rfl; rfl
    apply qop; rfl; apply Pev.len_slice; rfl; exact yes; rfl
    apply qfa; rfl; rfl; rfl
    apply qld; rfl; rfl; exact .tail _ (.tail _ (.head _)); rfl; rfl
    apply qfa; rfl; rfl; rfl
    apply qld; rfl; rfl; exact .head _; rfl; rfl
    apply qop; rfl; apply Pev.idx; rfl; exact yes; rfl; exact yes; rfl; rfl; intro hcond; omega
    apply qop; rfl; apply Pev.fldA; rfl; exact yes; rfl
    apply qop; rfl; apply Pev.load_kept; rfl; exact yes; exact .head _; rfl; intro hcond; apply CellsAt.at_ (by assumption) rfl; intro hcond; (simp only [add_block]; assumption); intro hcond; exact NotOwned.au
    apply qop; rfl; apply Pev.len_slice; rfl; exact yes; rfl
    apply qbn; rfl; rfl; rfl; apply Bin.neq
    apply QL.nil
    with_reducible apply At.next
    (refine W.cnd (fun h6 => ?_) (fun h6 => ?_)) <;> (try (exfalso; first | omega | exact h6 trivial | contradiction))
    · have h7 : edgeE bs u.1 = 3 := by rw [hE2, if_pos (by omega)]
      rw [herr (by rw [h7]; decide), h7]
      apply W.sr
      apply oas; rfl; rfl
      apply OL.nx
      refine W.rt ?_
      ((with_reducible apply At.fin1); rfl; rfl; intro w' hw')
      exact ⟨rfl, by (exact hw'.fr)⟩
    · have h7 : edgeE bs u.1 = 0 := by rw [hE2, if_neg (by omega)]
      apply W.skip
      with_reducible apply At.in_normal
      with_reducible apply At.next
      apply W.reg
      apply obn; rfl; rfl; rfl; apply Bin.add_in; omega
      apply omv; rfl; rfl
      apply OL.nil
      refine At.again (j + 1) ⟨by omega, fun m e hm he2 => ?_⟩ (by omega) (by exact Sub.au) (fun w' hw' => hw'.thin (by exact Thin.au))
      by_cases em : m = j
      · subst em
        rw [hue] at he2
        obtain rfl := Option.some.inj he2
        exact h7
      · exact hj0 m e (by omega) he2
  · have h0 : firstE (edgeE bs) t.to_ = 0 := firstE_all fun m e he2 => hj0 m e (by have := (List.getElem?_eq_some_iff.1 he2).1; omega) he2
    rw [h0]
    refine W.xt ?_
    with_reducible apply At.next
    apply W.sr
    apply oas; rfl; rfl
    apply OL.nx
    apply W.ret
    ((with_reducible apply At.fin1); rfl; rfl; intro w' hw')
    exact ⟨rfl, by (exact hw'.fr)⟩
end Go.Proofs.Ytehelljmaiophaa.ss

/- The walk of the reference's shapeErr. Conditions: none. -/
namespace Go.Ss
open Go.Eng Go.RowKit
structure GR where
  O : Nat → Prop
  q : Option Addr
  c : Nat
theorem rowInts {H : List Eng.Item} {S : List World} {w w' : World} {B m cap : Nat} {O : Nat → Prop} {q : Option Addr} {e : TypeId} {l : List Int} (h : Cls H S w') (hr : row B O q m cap e 1 (ints l) ∈ H) (hB : w.heap.size ≤ B) : IntsO w' (fresh w w') l q := fun hl => by
  have h1 := h.item hr
  obtain ⟨a, h3, _, h5⟩ := SlAt.of_row h1 (by rw [ints_length]; exact hl)
  have h6 := h1.1 a h3
  have hb : B ≤ a.block := by
    rcases h1.2.2 with ⟨h7, _⟩ | ⟨g, cap', cur, h7, hb, _⟩
    · simp only [Value.slice.injEq] at h7
      rw [h7.1] at h3; cases h3
    · simp only [Value.slice.injEq] at h7
      rw [h7.1] at h3
      obtain rfl := Option.some.inj h3
      exact hb
  exact ⟨a, h3, ⟨Nat.le_trans hB hb, h.lt _ hr _ ⟨hb, h6⟩⟩, h5⟩
theorem rowIntsL {H : List Eng.Item} {S : List World} {w' : World} {B m cap : Nat} {O : Nat → Prop} {q : Option Addr} {e : TypeId} {l : List Int} (h : Cls H S w') (hr : row B O q m cap e 1 (ints l) ∈ H) : IntsO w' (low w') l q := fun hl => by
  have h1 := h.item hr
  obtain ⟨a, h3, _, h5⟩ := SlAt.of_row h1 (by rw [ints_length]; exact hl)
  have h6 := h1.1 a h3
  have hb : B ≤ a.block := by
    rcases h1.2.2 with ⟨h7, _⟩ | ⟨g, cap', cur, h7, hb, _⟩
    · simp only [Value.slice.injEq] at h7
      rw [h7.1] at h3; cases h3
    · simp only [Value.slice.injEq] at h7
      rw [h7.1] at h3
      obtain rfl := Option.some.inj h3
      exact hb
  exact ⟨a, h3, h.lt _ hr _ ⟨hb, h6⟩, h5⟩
theorem nodup_le : ∀ {l m : List Int}, l.Nodup → (∀ x ∈ l, x ∈ m) → l.length ≤ m.length
  | [], _, _, _ => by simp
  | x :: r, m, hn, hs => by
    have hx := hs x (.head _)
    obtain ⟨m1, m2, rfl⟩ := List.append_of_mem hx
    rw [List.nodup_cons] at hn
    have := nodup_le (l := r) (m := m1 ++ m2) hn.2 (fun y hy => by
      have h1 := hs y (.tail _ hy)
      have h2 : y ≠ x := fun e => hn.1 (e ▸ hy)
      simp at h1 ⊢
      rcases h1 with h1 | h1 | h1
      · exact .inl h1
      · exact absurd h1 h2
      · exact .inr h1)
    simp at this ⊢
    omega
def Lim4 (l : List Int) : Prop := l.Nodup ∧ ∀ v ∈ l, 0 ≤ v ∧ v ≤ 4095
theorem Lim4.len {l : List Int} (h : Lim4 l) : l.length ≤ 4096 := by
  have := nodup_le (m := (List.range 4096).map fun n : Nat => (n : Int)) h.1 (fun x hx => by
    have := h.2 x hx
    exact List.mem_map.2 ⟨x.toNat, List.mem_range.2 (by omega), by omega⟩)
  simpa using this
theorem Lim4.snoc {l : List Int} {v : Int} (h : Lim4 l) (hd : defE v l = 0) : Lim4 (l ++ [v]) := by
  obtain ⟨h1, h2, h3⟩ := def_zero hd
  constructor
  · rw [List.nodup_append]
    refine ⟨h.1, by simp, fun a ha b hb => ?_⟩
    obtain rfl : b = v := by simpa using hb
    rintro rfl
    exact h3 ha
  · intro x hx
    rcases List.mem_append.1 hx with hx | hx
    · exact h.2 x hx
    · obtain rfl : x = v := by simpa using hx
      exact ⟨h1, h2⟩
end Go.Ss
namespace Go.Proofs.Ytehelljmaiophaa.ss
set_option maxRecDepth 100000
open Go.Eng Go.RowKit Go.Ss
theorem shapeErr_calls (es : List (Bk × BkY)) (q : Option Addr) (cap : Nat) (nm : Int) (w : World) (he : Arr bkR w (low w) es q) (hlen : es.length ≤ 140737488355328) :
    Calls Try.prog 57 [.agg #[.int .i64 nm, .slice q es.length cap]].toArray w fun e w' => e = .returned (.int .i64 (shapeE (es.map Prod.fst))) ∧ Ext w w' := by
  obtain ⟨bs, hbs⟩ : ∃ bs, es.map Prod.fst = bs := ⟨_, rfl⟩
  have hbl : bs.length = es.length := by rw [← hbs, List.length_map]
  rw [hbs]
  refine enter Try.func57 rfl Try.ntmps57 rfl (Cls.start w) ?_
  (simp only [argEnv, Nat.zero_add, Nat.reduceAdd])
  apply W.sr
  apply OL.box; rfl; rfl; exact CellsL.agg; (intro bk hbk; simp only [AllLe, and_true] at hbk)
  apply oas; rfl; rfl
  apply OL.nsr
  apply oas; rfl; rfl
  apply OL.nx
  apply W.seq
  apply W.sr
  apply ofa; rfl; rfl; rfl
  apply old; rfl; rfl; exact .head _; rfl; rfl
  apply oop; rfl; apply Pev.len_slice; rfl; exact yes; rfl
  apply omv; rfl; rfl
  apply OL.nx
  apply W.block
  revert bk
  intro bF hbF
  have hbF1 : w.heap.size ≤ bF := by first | exact hbF | exact hbF.1
  have hsz : ∀ k, firstR (fun k => blockE bs (defsF (bs.take k)) (bs.getD k noB)) k = 0 → blockE bs (defsF (bs.take k)) (bs.getD k noB) ≠ 0 → k < bs.length → shapeE bs = blockE bs (defsF (bs.take k)) (bs.getD k noB) := fun k h5 h6 h7 => by
    unfold shapeE
    exact firstR_at (g := fun k => blockE bs (defsF (bs.take k)) (bs.getD k noB)) h7 h5 h6
  refine W.loop (G := Nat × GR) (fun g => g.1 ≤ es.length ∧ firstR (fun k => blockE bs (defsF (bs.take k)) (bs.getD k noB)) g.1 = 0 ∧ Lim4 (defsF (bs.take g.1))) (fun g => es.length - g.1)
    (fun g => [(1, true, .pointer (some ⟨bF, 0, none⟩)), (3, true, .slice g.2.q (defsF (bs.take g.1)).length g.2.c), (15, true, .slice q es.length cap), (16, true, .int .i64 (es.length : Int)), (17, true, .int .i64 (g.1 : Int))])
    (fun g => Cls [row w.heap.size g.2.O g.2.q (defsF (bs.take g.1)).length g.2.c 3 1 (ints (defsF (bs.take g.1))), blk bF 24 [.int .i64 nm, .slice q es.length cap]] [w]) (0, ⟨fun _ => False, none, 0⟩) ⟨by simp, rfl, by simp [defsF, Lim4]⟩ (by exact Sub.au) (fun w' hw' => hw'.row_nil w.heap.size 3 1) ?_
  rintro ⟨k, ⟨O0, q0, c0⟩⟩ ⟨hk, hk0, hlim⟩
  simp only at hk hk0 hlim ⊢
  apply W.sr
  apply obn; rfl; rfl; rfl; apply Bin.lss
  apply OL.nx
  apply W.seq
  (refine W.cnd (fun hlt => ?_) (fun hlt => ?_)) <;> (try (exfalso; first | omega | exact hlt trivial | contradiction))
  · have hkl : k < es.length := by omega
    obtain ⟨a, p, hqa, hab, hp, hcell, hok⟩ := he.get hkl
    have hab : a.block < w.heap.size := hab
    have hcell : CellsAt w (a.add (k * 7)) [.slice p.2.p.1 p.1.params.length p.2.p.2, .slice p.2.i.1 p.1.ins.length p.2.i.2, .int .i64 p.1.term.kind, .int .i64 p.1.term.arg, .int .i64 p.1.term.n, .slice p.2.t.c.1 p.1.term.cases.length p.2.t.c.2, .slice p.2.t.t.1 p.1.term.to_.length p.2.t.t.2] := hcell
    have hbsk : bs[k]? = some p.1 := by rw [← hbs, List.getElem?_map, hp]; rfl
    have hgd : bs.getD k noB = p.1 := by rw [List.getD_eq_getElem?_getD, hbsk]; rfl
    have hpl := hok.pl
    have hil := hok.il
    obtain ⟨pi, hpi, hiarr⟩ := hok.i
    have hpil : p.1.ins.length = pi.length := by rw [← hpi, List.length_map]
    have hdn : defsF (bs.take (k + 1)) = defsF (bs.take k) ++ defsB p.1 := by
      unfold defsF
      rw [List.take_add_one, hbsk, Option.toList_some, List.flatMap_append]
      simp
    have hbe : shapeE bs = if blockE bs (defsF (bs.take k)) p.1 ≠ 0 then blockE bs (defsF (bs.take k)) p.1 else shapeE bs := by
      split
      · rename_i h
        rw [hsz k hk0 (by rw [hgd]; exact h) (by omega), hgd]
      · rfl
    have hnx : blockE bs (defsF (bs.take k)) p.1 = 0 → firstR (fun k => blockE bs (defsF (bs.take k)) (bs.getD k noB)) (k + 1) = 0 := fun h => firstR_next hk0 (by rw [hgd]; exact h)
    generalize defsF (bs.take k) = seen at *
    rw [hqa]
    apply W.sk
    apply W.sb
    apply W.sr
    apply oop; rfl; apply Pev.idx; rfl; exact yes; rfl; exact yes; rfl; rfl; intro hcond; omega
    apply oop; rfl; apply Pev.load_keptA; rfl; exact yes; exact .head _; rfl; intro hcond; assumption; rfl; intro hcond; (rw [add_block]; assumption); intro hcond; exact NotOwned.au
    apply OL.alloc; rfl; rfl; exact CellsL.agg; (intro bk hbk; simp only [AllLe, and_true] at hbk)
    apply OL.storeB; rfl; rfl; exact CellsL.agg; rfl; rfl; rfl; exact Swap.au; exact Put.au
    apply OL.nx
    apply W.seq
    apply W.sr
    apply ofa; rfl; rfl; rfl
    apply old; rfl; rfl; exact .head _; rfl; rfl
    apply oop; rfl; apply Pev.len_slice; rfl; exact yes; rfl
    apply omv; rfl; rfl
    apply OL.nx
    apply W.block
    revert bk
    intro b5 hb5
    have hb51 : w.heap.size ≤ b5 := by first | exact hb5 | exact hb5.1
    refine W.loop (G := Nat × GR) (fun g => g.1 ≤ p.1.params.length ∧ firstR (paramE seen p.1.params) g.1 = 0 ∧ Lim4 (seen ++ p.1.params.take g.1)) (fun g => p.1.params.length - g.1)
      (fun g => [(1, true, .pointer (some ⟨bF, 0, none⟩)), (3, true, .slice g.2.q (seen ++ p.1.params.take g.1).length g.2.c), (5, true, .pointer (some ⟨b5, 0, none⟩)), (15, true, .slice (some a) es.length cap), (16, true, .int .i64 (es.length : Int)), (17, true, .int .i64 (k : Int)), (22, true, .slice p.2.p.1 p.1.params.length p.2.p.2), (23, true, .int .i64 (p.1.params.length : Int)), (24, true, .int .i64 (g.1 : Int))])
      (fun g => Cls [blk b5 41 [.slice p.2.p.1 p.1.params.length p.2.p.2, .slice p.2.i.1 p.1.ins.length p.2.i.2, .int .i64 p.1.term.kind, .int .i64 p.1.term.arg, .int .i64 p.1.term.n, .slice p.2.t.c.1 p.1.term.cases.length p.2.t.c.2, .slice p.2.t.t.1 p.1.term.to_.length p.2.t.t.2], row w.heap.size g.2.O g.2.q (seen ++ p.1.params.take g.1).length g.2.c 3 1 (ints (seen ++ p.1.params.take g.1)), blk bF 24 [.int .i64 nm, .slice (some a) es.length cap]] [w]) (0, ⟨O0, q0, c0⟩) ⟨by simp, rfl, by simpa using hlim⟩ (by simp only [List.take_zero, List.append_nil]; exact Sub.au) (fun w' hw' => by simpa only [List.take_zero, List.append_nil] using hw') ?_
    rintro ⟨j, ⟨Op, qp, cp⟩⟩ ⟨hj, hj0, hlim1⟩
    simp only at hj hj0 hlim1 ⊢
    apply W.sr
    apply obn; rfl; rfl; rfl; apply Bin.lss
    apply OL.nx
    apply W.seq
    (refine W.cnd (fun hlt1 => ?_) (fun hlt1 => ?_)) <;> (try (exfalso; first | omega | exact hlt1 trivial | contradiction))
    · have hjl : j < p.1.params.length := by omega
      obtain ⟨av, v, hqv, habv, hv, hcv⟩ := hok.p.get hjl
      have habv : av.block < w.heap.size := habv
      have hpe := paramE_at (seen := seen) hv
      have hln := hlim1.len
      have htk : p.1.params.take (j + 1) = p.1.params.take j ++ [v] := by rw [List.take_add_one, hv]; rfl
      generalize hs1 : seen ++ p.1.params.take j = seen1 at *
      rw [hqv]
      apply W.sk
      apply W.sb
      apply W.sr
      apply oop; rfl; apply Pev.idx; rfl; exact yes; rfl; exact yes; rfl; rfl; intro hcond; omega
      apply oop; rfl; apply Pev.load_kept; rfl; exact yes; exact .head _; rfl; intro hcond; assumption; intro hcond; (rw [add_block]; assumption); intro hcond; exact NotOwned.au
      apply oas; rfl; rfl
      apply OL.nx
      apply W.seq
      apply W.sr
      apply omv; rfl; rfl
      apply omv; rfl; rfl
      (((first | (with_reducible apply OL.op) | (with_reducible apply QL.op)); (exact Guard.au); rfl; rfl); (exact Pev.call (v := .int .i64 (defE v seen1)) rfl (by exact Args.au) (fun _ w2 hw2 => (defErr_calls v qp cp seen1 w2 (by omega) (rowIntsL hw2 (by exact mau))).mono (fun e w3 h => ⟨h.1, hw2.ext h.2⟩))))
      apply oas; rfl; rfl
      apply OL.nsr
      apply omv; rfl; rfl
      apply obn; rfl; rfl; rfl; apply Bin.neq
      apply OL.nx
      (refine W.cnd (fun hne => ?_) (fun hne => ?_)) <;> (try (exfalso; first | omega | exact hne trivial | contradiction))
      · have h5 : blockE bs seen p.1 = defE v seen1 := by
          unfold blockE
          rw [firstR_at hjl hj0 (by rw [hpe]; exact hne), hpe, if_pos hne]
        rw [hbe, h5, if_pos hne]
        apply W.sr
        apply omv; rfl; rfl
        apply oas; rfl; rfl
        apply OL.nx
        refine W.rt ?_
        ((with_reducible apply At.fin1); rfl; rfl; intro w' hw')
        exact ⟨rfl, by (exact hw'.fr)⟩
      have h0 : defE v seen1 = 0 := by simpa using hne
      apply W.sk
      apply W.reg
      apply omv; rfl; rfl
      apply omv; rfl; rfl
      apply OL.buildSlice; rfl; rfl; rfl; exact Elems.au; rfl; rfl; (intro bk hbk; simp only [AllLe, and_true] at hbk)
      apply OL.append; rfl; rfl; rfl; rfl; exact Hole.au; exact .head _; exact Take.au; rfl; rfl; exact ⟨_, .head _, Nat.le_refl _⟩; omega; intro O1 g1 cap1
      apply oas; rfl; rfl
      apply OL.nil
      with_reducible apply At.in_normal
      with_reducible apply At.next
      apply W.reg
      apply obn; rfl; rfl; rfl; apply Bin.add_in; omega
      apply omv; rfl; rfl
      apply OL.nil
      have hs2 : seen ++ p.1.params.take (j + 1) = seen1 ++ [v] := by rw [htk, ← List.append_assoc, hs1]
      refine At.again (j + 1, ⟨O1, some ⟨g1, 0, none⟩, cap1⟩) ⟨by simp only; omega, firstR_next hj0 (by rw [hpe]; exact h0), by simp only [hs2]; exact hlim1.snoc h0⟩ (by simp only; omega) (by simp only [hs2, List.length_append, List.length_cons, List.length_nil]; exact Sub.au) (fun w' hw' => ?_)
      simp only [hs2, ints_append, List.length_append, List.length_cons, List.length_nil]
      exact hw'.thin (by exact Thin.au)
    obtain rfl : j = p.1.params.length := by omega
    rw [List.take_length] at hlim1 ⊢
    have hB1 : blockE bs seen p.1 = if ¬ firstR (insE (seen ++ p.1.params) p.1.ins) p.1.ins.length = 0 then firstR (insE (seen ++ p.1.params) p.1.ins) p.1.ins.length else termE bs p.1.term := by
      unfold blockE
      rw [if_neg (fun h => h hj0)]
    have hdb : seen ++ defsB p.1 = (seen ++ p.1.params) ++ p.1.ins.map In.to_ := by unfold defsB; rw [List.append_assoc]
    rw [hdb] at hdn
    generalize seen ++ p.1.params = sp at *
    refine W.xt ?_
    with_reducible apply At.next
    apply W.seq
    apply W.sr
    apply ofa; rfl; rfl; rfl
    apply old; rfl; rfl; exact .head _; rfl; rfl
    apply oop; rfl; apply Pev.len_slice; rfl; exact yes; rfl
    apply omv; rfl; rfl
    apply OL.nx
    apply W.block
    refine W.loop (G := Nat × GR) (fun g => g.1 ≤ p.1.ins.length ∧ firstR (insE sp p.1.ins) g.1 = 0 ∧ Lim4 (sp ++ (p.1.ins.take g.1).map In.to_)) (fun g => p.1.ins.length - g.1)
      (fun g => [(1, true, .pointer (some ⟨bF, 0, none⟩)), (3, true, .slice g.2.q (sp ++ (p.1.ins.take g.1).map In.to_).length g.2.c), (5, true, .pointer (some ⟨b5, 0, none⟩)), (15, true, .slice (some a) es.length cap), (16, true, .int .i64 (es.length : Int)), (17, true, .int .i64 (k : Int)), (40, true, .slice p.2.i.1 p.1.ins.length p.2.i.2), (41, true, .int .i64 (p.1.ins.length : Int)), (42, true, .int .i64 (g.1 : Int))])
      (fun g => Cls [blk b5 41 [.slice p.2.p.1 p.1.params.length p.2.p.2, .slice p.2.i.1 p.1.ins.length p.2.i.2, .int .i64 p.1.term.kind, .int .i64 p.1.term.arg, .int .i64 p.1.term.n, .slice p.2.t.c.1 p.1.term.cases.length p.2.t.c.2, .slice p.2.t.t.1 p.1.term.to_.length p.2.t.t.2], row w.heap.size g.2.O g.2.q (sp ++ (p.1.ins.take g.1).map In.to_).length g.2.c 3 1 (ints (sp ++ (p.1.ins.take g.1).map In.to_)), blk bF 24 [.int .i64 nm, .slice (some a) es.length cap]] [w]) (0, ⟨Op, qp, cp⟩) ⟨by simp, rfl, by simpa using hlim1⟩ (by simp only [List.take_zero, List.map_nil, List.append_nil]; exact Sub.au) (fun w' hw' => by simpa only [List.take_zero, List.map_nil, List.append_nil] using hw') ?_
    rintro ⟨j, ⟨Oq, qq, cq⟩⟩ ⟨hj, hj1, hlim2⟩
    simp only at hj hj1 hlim2 ⊢
    apply W.sr
    apply obn; rfl; rfl; rfl; apply Bin.lss
    apply OL.nx
    apply W.seq
    (refine W.cnd (fun hlt2 => ?_) (fun hlt2 => ?_)) <;> (try (exfalso; first | omega | exact hlt2 trivial | contradiction))
    · have hjl : j < p.1.ins.length := by omega
      obtain ⟨ai, u, hqi, haib, hu, hcu, hoku⟩ := hiarr.get (show j < pi.length by omega)
      have haib : ai.block < w.heap.size := haib
      have hcu : CellsAt w (ai.add (j * 4)) [.int .i64 u.1.to_, .int .i64 u.1.op, .int .i64 u.1.n, .slice u.2.1 u.1.args.length u.2.2] := hcu
      have hui : p.1.ins[j]? = some u.1 := by rw [← hpi, List.getElem?_map, hu]; rfl
      have hual := hoku.al
      have hie := insE_at (seen := sp) hui
      have hln := hlim2.len
      have htk : p.1.ins.take (j + 1) = p.1.ins.take j ++ [u.1] := by rw [List.take_add_one, hui]; rfl
      have herr : insE sp p.1.ins j ≠ 0 → shapeE bs = insE sp p.1.ins j := fun h => by
        have h5 : blockE bs seen p.1 = insE sp p.1.ins j := by
          rw [hB1, firstR_at hjl hj1 h, if_pos h]
        rw [hbe, h5, if_pos h]
      generalize hs1 : sp ++ (p.1.ins.take j).map In.to_ = seen1 at *
      rw [hqi]
      apply W.sk
      apply W.sb
      apply W.sr
      apply oop; rfl; apply Pev.idx; rfl; exact yes; rfl; exact yes; rfl; rfl; intro hcond; omega
      apply oop; rfl; apply Pev.load_keptA; rfl; exact yes; exact .head _; rfl; intro hcond; assumption; rfl; intro hcond; (rw [add_block]; assumption); intro hcond; exact NotOwned.au
      apply OL.alloc; rfl; rfl; exact CellsL.agg; (intro bk hbk; simp only [AllLe, and_true] at hbk)
      apply OL.storeB; rfl; rfl; exact CellsL.agg; rfl; rfl; rfl; exact Swap.au; exact Put.au
      apply OL.nx
      apply W.seq
      apply W.sr
      apply ofa; rfl; rfl; rfl
      apply old; rfl; rfl; exact .head _; rfl; rfl
      apply omv; rfl; rfl
      revert bk
      intro b10 hb10
      (((first | (with_reducible apply OL.op) | (with_reducible apply QL.op)); (exact Guard.au); rfl; rfl); (exact Pev.call (v := .int .i64 (defE u.1.to_ seen1)) rfl (by exact Args.au) (fun _ w2 hw2 => (defErr_calls u.1.to_ qq cq seen1 w2 (by omega) (rowIntsL hw2 (by exact mau))).mono (fun e w3 h => ⟨h.1, hw2.ext h.2⟩))))
      apply oas; rfl; rfl
      apply OL.nsr
      apply omv; rfl; rfl
      apply obn; rfl; rfl; rfl; apply Bin.neq
      apply OL.nx
      (refine W.cnd (fun hne => ?_) (fun hne => ?_)) <;> (try (exfalso; first | omega | exact hne trivial | contradiction))
      · have h5 : insE sp p.1.ins j = defE u.1.to_ seen1 := by rw [hie, if_pos hne]
        rw [herr (by rw [h5]; exact hne), h5]
        apply W.sr
        apply omv; rfl; rfl
        apply oas; rfl; rfl
        apply OL.nx
        refine W.rt ?_
        ((with_reducible apply At.fin1); rfl; rfl; intro w' hw')
        exact ⟨rfl, by (exact hw'.fr)⟩
      have h0 : defE u.1.to_ seen1 = 0 := by simpa using hne
      have h5 : insE sp p.1.ins j = formE u.1 := by rw [hie, if_neg (fun h => h h0)]
      apply W.sk
      apply W.sr
      apply omv; rfl; rfl
      apply ofa; rfl; rfl; rfl
      apply old; rfl; rfl; exact .head _; rfl; rfl
      apply OL.buildSlice; rfl; rfl; rfl; exact Elems.au; rfl; rfl; (intro bk hbk; simp only [AllLe, and_true] at hbk)
      apply OL.append; rfl; rfl; rfl; rfl; exact Hole.au; exact .head _; exact Take.au; rfl; rfl; exact ⟨_, .head _, Nat.le_refl _⟩; omega; intro O1 g1 cap1
      apply oas; rfl; rfl
      apply OL.nsr
      apply oop; rfl; apply Pev.load_blkA; rfl; exact yes; exact .tail _ (.head _); rfl; exact Take.au
      (((first | (with_reducible apply OL.op) | (with_reducible apply QL.op)); (exact Guard.au); rfl; rfl); (exact Pev.call (v := .int .i64 (formE u.1)) rfl (by exact Args.au) (fun _ w2 hw2 => (insErr_calls u.1 u.2 w2 hual).mono (fun e w3 h => ⟨h.1, hw2.ext h.2⟩))))
      apply oas; rfl; rfl
      apply OL.nsr
      apply omv; rfl; rfl
      apply obn; rfl; rfl; rfl; apply Bin.neq
      apply OL.nx
      (refine W.cnd (fun hne2 => ?_) (fun hne2 => ?_)) <;> (try (exfalso; first | omega | exact hne2 trivial | contradiction))
      · rw [herr (by rw [h5]; exact hne2), h5]
        apply W.sr
        apply omv; rfl; rfl
        apply oas; rfl; rfl
        apply OL.nx
        refine W.rt ?_
        ((with_reducible apply At.fin1); rfl; rfl; intro w' hw')
        exact ⟨rfl, by (exact hw'.fr)⟩
      have h6 : formE u.1 = 0 := by simpa using hne2
      apply W.skip
      with_reducible apply At.in_normal
      with_reducible apply At.next
      apply W.reg
      apply obn; rfl; rfl; rfl; apply Bin.add_in; omega
      apply omv; rfl; rfl
      apply OL.nil
      have hs2 : sp ++ (p.1.ins.take (j + 1)).map In.to_ = seen1 ++ [u.1.to_] := by rw [htk, List.map_append, ← List.append_assoc, hs1]; rfl
      refine At.again (j + 1, ⟨O1, some ⟨g1, 0, none⟩, cap1⟩) ⟨by simp only; omega, firstR_next hj1 (by rw [h5]; exact h6), by simp only [hs2]; exact hlim2.snoc h0⟩ (by simp only; omega) (by simp only [hs2, List.length_append, List.length_cons, List.length_nil]; exact Sub.au) (fun w' hw' => ?_)
      simp only [hs2, ints_append, List.length_append, List.length_cons, List.length_nil]
      exact hw'.thin (by exact Thin.au)
    obtain rfl : j = p.1.ins.length := by omega
    rw [List.take_length] at hlim2 ⊢
    rw [if_neg (fun h => h hj1)] at hB1
    rw [← hdn] at hlim2 ⊢
    refine W.xt ?_
    with_reducible apply At.next
    apply W.sr
    apply oop; rfl; apply Pev.load_blkA; rfl; exact yes; exact .tail _ (.tail _ (.head _)); rfl; exact Take.au
    apply ofa; rfl; rfl; rfl
    apply oop; rfl; apply Pev.load_blkA; rfl; exact yes; exact .head _; rfl; exact Take.au
    (((first | (with_reducible apply OL.op) | (with_reducible apply QL.op)); (exact Guard.au); rfl; rfl); (exact Pev.call (v := .int .i64 (termE bs p.1.term)) rfl (by exact Args.au) (fun _ w2 hw2 => (termErr_calls es (some a) cap nm p.1.term p.2.t w2 ((hqa ▸ he : Arr bkR w (low w) es (some a)).at hw2 (by exact mau) (fun k hk => by exact NotOwned.au)) hlen (TmOk.at hok.t hw2 (by exact mau) (fun k hk => by exact NotOwned.au))).mono (fun e w3 h => ⟨by rw [h.1, hbs], hw2.ext h.2⟩))))
    apply oas; rfl; rfl
    apply OL.nsr
    apply omv; rfl; rfl
    apply obn; rfl; rfl; rfl; apply Bin.neq
    apply OL.nx
    (refine W.cnd (fun hne => ?_) (fun hne => ?_)) <;> (try (exfalso; first | omega | exact hne trivial | contradiction))
    · rw [hbe, hB1, if_pos hne]
      apply W.sr
      apply omv; rfl; rfl
      apply oas; rfl; rfl
      apply OL.nx
      refine W.rt ?_
      ((with_reducible apply At.fin1); rfl; rfl; intro w' hw')
      exact ⟨rfl, by (exact hw'.fr)⟩
    have h0 : termE bs p.1.term = 0 := by simpa using hne
    apply W.skip
    with_reducible apply At.in_normal
    with_reducible apply At.next
    apply W.reg
    apply obn; rfl; rfl; rfl; apply Bin.add_in; omega
    apply omv; rfl; rfl
    apply OL.nil
    exact At.again (k + 1, ⟨Oq, qq, cq⟩) ⟨by simp only; omega, hnx (by rw [hB1]; exact h0), hlim2⟩ (by simp only; omega) (by exact Sub.au) (fun w' hw' => hw'.thin (by exact Thin.au))
  obtain rfl : k = es.length := by omega
  have h0 : shapeE bs = 0 := by
    unfold shapeE
    rw [hbl]
    exact hk0
  rw [h0]
  refine W.xt ?_
  with_reducible apply At.next
  apply W.sr
  apply oas; rfl; rfl
  apply OL.nx
  apply W.ret
  ((with_reducible apply At.fin1); rfl; rfl; intro w' hw')
  exact ⟨rfl, by (exact hw'.fr)⟩
end Go.Proofs.Ytehelljmaiophaa.ss

/- The walks of the reference's Reach and Over. Conditions: none. -/
namespace Go.Ss
open Go.Eng Go.RowKit
def bls (l : List Bool) : List Value := l.map fun b => .bool b
theorem bls_length (l : List Bool) : (bls l).length = l.length := by simp [bls]
theorem bls_get {l : List Bool} {i : Nat} {b : Bool} (h : l[i]? = some b) : (bls l)[i]? = some (.bool b) := by simp [bls, h]
theorem bls_set (l : List Bool) (i : Nat) (b : Bool) : (bls l).set i (.bool b) = bls (l.set i b) := by simp [bls]
theorem bls_zero (n : Nat) : List.replicate n (Value.bool false) = bls (List.replicate n false) := by simp [bls]
theorem rc_none {G : List (List Int)} {v : Int} (h : v = 0 ∨ G.length = 0) (b : Nat) : ¬ Rc G v b := by
  intro hr
  induction hr with
  | zero h1 h2 => omega
  | step _ _ _ _ ih => exact ih
theorem getD_true {B : List Bool} {k : Nat} (hk : k < B.length) : B[k]? = some (B.getD k false) := by
  rw [List.getD_eq_getElem?_getD, List.getElem?_eq_getElem hk]; rfl
end Go.Ss
namespace Go.Proofs.Ytehelljmaiophaa.ss
set_option maxRecDepth 100000
open Go.Eng Go.RowKit Go.Ss
theorem Reach_calls (es : List (Bk × BkY)) (q : Option Addr) (cap : Nat) (nm v : Int) (w : World) (he : Arr bkR w (low w) es q) (hlen : es.length ≤ 140737488355328) :
    Calls Try.prog 39 [.agg #[.int .i64 nm, .slice q es.length cap], .int .i64 v].toArray w fun e w' => ∃ (b : Nat) (B : List Bool), e = .returned (.slice (some ⟨b, 0, none⟩) es.length es.length) ∧ B.length = es.length ∧ (∀ k : Nat, B[k]? = some true ↔ Rc (graphB (es.map Prod.fst)) v k) ∧ Ext w w' ∧ w.heap.size ≤ b ∧ (blk b 4 (bls B)).holds w' := by
  obtain ⟨G, hG⟩ : ∃ G, graphB (es.map Prod.fst) = G := ⟨_, rfl⟩
  have hGl : G.length = es.length := by rw [← hG]; simp [graphB]
  rw [hG]
  refine enter Try.func39 rfl Try.ntmps39 rfl (Cls.start w) ?_
  (simp only [argEnv, Nat.zero_add, Nat.reduceAdd])
  apply W.sr
  apply OL.box; rfl; rfl; exact CellsL.agg; (intro bk hbk; simp only [AllLe, and_true] at hbk)
  apply oas; rfl; rfl
  apply OL.nsr
  apply ofa; rfl; rfl; rfl
  apply old; rfl; rfl; exact .head _; rfl; rfl
  apply oop; rfl; apply Pev.len_slice; rfl; exact yes; rfl
  apply OL.makeSlice; rfl; rfl; rfl; rfl; rfl; rfl; rfl; omega; (intro bk hbk; simp only [AllLe, and_true] at hbk)
  apply oas; rfl; rfl
  apply OL.nx
  apply W.seq
  apply W.sr
  apply omv; rfl; rfl
  apply obn; rfl; rfl; rfl; apply Bin.eql
  apply omv; rfl; rfl
  apply ono; rfl; rfl; rfl; apply Pev.fld; rfl; exact yes; rfl
  apply ono; rfl; rfl; rfl; apply Pev.load_blk; rfl; exact fun h => h; exact .tail _ (.head _); rfl; rfl
  apply ono; rfl; rfl; rfl; apply Pev.len_slice; rfl; exact fun h => h; rfl
  apply ono; rfl; rfl; rfl; apply Pev.bin; rfl; exact fun h => h; rfl; exact yes; intro hcond; apply Bin.eql
  apply oop; rfl; apply Pev.pick_or; rfl; exact yes; rfl; exact fun h => h
  apply OL.nx
  rename_i bF hbF
  revert bk
  intro bR hbR
  rw [bls_zero]
  refine W.cond rfl (fun h1 => ?_) (fun h1 => ?_)
  · apply W.sr
    apply omv; rfl; rfl
    apply oas; rfl; rfl
    apply OL.nx
    refine W.rt ?_
    ((with_reducible apply At.fin1); rfl; rfl; intro w' hw')
    refine ⟨bR, List.replicate es.length false, rfl, by simp, fun k => ⟨fun h => ?_, fun h => absurd h (rc_none (by simp [-List.length_eq_zero_iff] at h1; omega) k)⟩, (hw'.thin (by exact Thin.au)).fr (by exact mau) (fun k hk => NotOwned.nil), ?_, hw'.item (by exact mau)⟩
    · have := List.getElem?_eq_some_iff.1 h
      simp at this
    · first | exact hbR | exact hbR.1 | exact hbR.mem _ (by exact mau)
  have hv0 : v ≠ 0 := by simp [-List.length_eq_zero_iff] at h1; omega
  have hn0 : 0 < es.length := by simp [-List.length_eq_zero_iff] at h1; omega
  have h1' : v ≠ 0 ∧ 0 < es.length := ⟨hv0, hn0⟩
  apply W.sk
  apply W.sr
  apply omv; rfl; rfl
  apply oop; rfl; apply Pev.idxB; rfl; exact yes; rfl; exact yes; rfl; intro hcond; omega; rfl
  (apply OL.storeI); rfl; rfl; rfl; rfl; rfl; (exact Swap.au); (rw [bls_length, List.length_replicate]; omega)
  rw [show (bls (List.replicate es.length false)).set (0 + Int.toNat 0 * 1) (.bool true) = bls ((List.replicate es.length false).set 0 true) from bls_set _ _ _]
  apply OL.nx
  apply W.seq
  apply W.sr
  apply ofa; rfl; rfl; rfl
  apply old; rfl; rfl; exact .tail _ (.head _); rfl; rfl
  apply oop; rfl; apply Pev.len_slice; rfl; exact yes; rfl
  apply omv; rfl; rfl
  apply OL.nx
  apply W.block
  have hBR : w.heap.size ≤ bR := by first | exact hbR | exact hbR.1 | exact hbR.mem _ (by exact mau)
  refine W.loop (G := Nat × List Bool) (fun g => g.1 ≤ es.length ∧ g.2.length = es.length ∧ (∀ b : Nat, g.2[b]? = some true → Rc G v b) ∧ g.2[0]? = some true ∧ (Closed G v g.2 ∨ g.1 + 1 ≤ cntT g.2)) (fun g => es.length - g.1)
    (fun g => [(1, true, .int .i64 v), (2, true, .pointer (some ⟨bF, 0, none⟩)), (5, true, .slice (some ⟨bR, 0, none⟩) es.length es.length), (27, true, .int .i64 (es.length : Int)), (28, true, .int .i64 (g.1 : Int))])
    (fun g => Cls [blk bR 4 (bls g.2), blk bF 24 [.int .i64 nm, .slice q es.length cap]] [w]) (0, (List.replicate es.length false).set 0 true) ⟨by simp, by simp, fun b hb => ?_, by rw [List.getElem?_set]; simp [h1'.2], .inr ?_⟩ (by exact Sub.au) (fun w' hw' => hw') ?_
  · rw [List.getElem?_set] at hb
    split at hb
    · rename_i e
      subst e
      exact .zero h1'.1 (by omega)
    · have := List.getElem?_eq_some_iff.1 hb
      simp at this
  · have : 0 < cntT ((List.replicate es.length false).set 0 true) := List.count_pos_iff.2 (List.mem_of_getElem? (i := 0) (by rw [List.getElem?_set]; simp [h1'.2]))
    simp only
    omega
  rintro ⟨r, B0⟩ ⟨hr, hB0, hs0, hz0, hc0⟩
  simp only at hr hB0 hs0 hz0 hc0 ⊢
  apply W.sr
  apply obn; rfl; rfl; rfl; apply Bin.lss
  apply OL.nx
  apply W.seq
  (refine W.cnd (fun hltr => ?_) (fun hltr => ?_)) <;> (try (exfalso; first | omega | exact hltr trivial | contradiction))
  · apply W.sk
    apply W.sb
    apply W.sr
    apply ofa; rfl; rfl; rfl
    apply old; rfl; rfl; exact .tail _ (.head _); rfl; rfl
    apply oop; rfl; apply Pev.len_slice; rfl; exact yes; rfl
    apply omv; rfl; rfl
    apply OL.nx
    apply W.block
    refine W.loop (G := Nat × List Bool) (fun g => g.1 ≤ es.length ∧ Rnd G v B0 g.2 g.1 0) (fun g => es.length - g.1)
      (fun g => [(1, true, .int .i64 v), (2, true, .pointer (some ⟨bF, 0, none⟩)), (5, true, .slice (some ⟨bR, 0, none⟩) es.length es.length), (27, true, .int .i64 (es.length : Int)), (28, true, .int .i64 (r : Int)), (31, true, .slice q es.length cap), (32, true, .int .i64 (es.length : Int)), (33, true, .int .i64 (g.1 : Int))])
      (fun g => Cls [blk bR 4 (bls g.2), blk bF 24 [.int .i64 nm, .slice q es.length cap]] [w]) (0, B0) ⟨by simp, .start (by omega) hs0⟩ (by exact Sub.au) (fun w' hw' => hw') ?_
    rintro ⟨k, B⟩ ⟨hk, hR⟩
    simp only at hk hR ⊢
    have hBl : B.length = es.length := by rw [hR.len, hGl]
    apply W.sr
    apply obn; rfl; rfl; rfl; apply Bin.lss
    apply OL.nx
    apply W.seq
    (refine W.cnd (fun hlt => ?_) (fun hlt => ?_)) <;> (try (exfalso; first | omega | exact hlt trivial | contradiction))
    · have hkl : k < es.length := by omega
      obtain ⟨a, p, hqa, hab, hp, hcell, hok⟩ := he.get hkl
      have hab : a.block < w.heap.size := hab
      have hcell : CellsAt w (a.add (k * 7)) [.slice p.2.p.1 p.1.params.length p.2.p.2, .slice p.2.i.1 p.1.ins.length p.2.i.2, .int .i64 p.1.term.kind, .int .i64 p.1.term.arg, .int .i64 p.1.term.n, .slice p.2.t.c.1 p.1.term.cases.length p.2.t.c.2, .slice p.2.t.t.1 p.1.term.to_.length p.2.t.t.2] := hcell
      have htl := hok.t.tl
      obtain ⟨ts, hts, harr⟩ := hok.t.t
      have htl2 : p.1.term.to_.length = ts.length := by rw [← hts, List.length_map]
      have hGk : G[k]? = some (p.1.term.to_.map Ed.block) := by
        rw [← hG]
        simp [graphB, hp]
      rw [hqa]
      apply W.sk
      apply W.sb
      apply W.sr
      apply omv; rfl; rfl
      apply oop; rfl; apply Pev.idx; rfl; exact yes; rfl; exact yes; rfl; rfl; intro hcond; omega
      apply oop; rfl; apply Pev.load_keptA; rfl; exact yes; exact .head _; rfl; intro hcond; assumption; rfl; intro hcond; (rw [add_block]; assumption); intro hcond; exact NotOwned.au
      apply OL.alloc; rfl; rfl; exact CellsL.agg; (intro bk hbk; simp only [AllLe, and_true] at hbk)
      apply oas; rfl; rfl
      apply OL.storeB; rfl; rfl; exact CellsL.agg; rfl; rfl; rfl; exact Swap.au; exact Put.au
      apply OL.nsr
      apply ofa; rfl; rfl; rfl
      apply ofa; rfl; rfl; rfl
      apply old; rfl; rfl; exact .head _; rfl; rfl
      apply oop; rfl; apply Pev.len_slice; rfl; exact yes; rfl
      apply omv; rfl; rfl
      apply OL.nx
      apply W.block
      revert bk
      intro b7 hb7
      refine W.loop (G := Nat × List Bool) (fun g => g.1 ≤ ts.length ∧ Rnd G v B0 g.2 k g.1) (fun g => ts.length - g.1)
        (fun g => [(1, true, .int .i64 v), (2, true, .pointer (some ⟨bF, 0, none⟩)), (5, true, .slice (some ⟨bR, 0, none⟩) es.length es.length), (6, true, .int .i64 (k : Int)), (27, true, .int .i64 (es.length : Int)), (28, true, .int .i64 (r : Int)), (31, true, .slice (some a) es.length cap), (32, true, .int .i64 (es.length : Int)), (33, true, .int .i64 (k : Int)), (40, true, .slice p.2.t.t.1 ts.length p.2.t.t.2), (41, true, .int .i64 (ts.length : Int)), (42, true, .int .i64 (g.1 : Int))])
        (fun g => Cls [blk bR 4 (bls g.2), blk bF 24 [.int .i64 nm, .slice (some a) es.length cap]] [w]) (0, B) ⟨by simp, hR⟩ (by rw [htl2]; exact Sub.au) (fun w' hw' => hw'.thin (by exact Thin.au)) ?_
      rintro ⟨j, C⟩ ⟨hj, hRC⟩
      simp only at hj hRC ⊢
      have hCl : C.length = es.length := by rw [hRC.len, hGl]
      apply W.sr
      apply obn; rfl; rfl; rfl; apply Bin.lss
      apply OL.nx
      apply W.seq
      (refine W.cnd (fun hlt2 => ?_) (fun hlt2 => ?_)) <;> (try (exfalso; first | omega | exact hlt2 trivial | contradiction))
      · have hjl : j < ts.length := by omega
        obtain ⟨ae, u, hqt, hatb, hu, hcu, hoku⟩ := harr.get hjl
        have hatb : ae.block < w.heap.size := hatb
        have hcu : CellsAt w (ae.add (j * 2)) [.int .i64 u.1.block, .slice u.2.1 u.1.args.length u.2.2] := hcu
        have hue : (p.1.term.to_.map Ed.block)[j]? = some u.1.block := by rw [← hts]; simp [hu]
        have hck : C[k]? = some (C.getD k false) := getD_true (by omega)
        have hckv : (bls C)[0 + (k : Int).toNat * 1]? = some (.bool (C.getD k false)) := by
          rw [show 0 + (k : Int).toNat * 1 = k by omega]
          exact bls_get hck
        rw [hqt]
        apply W.sk
        apply W.sb
        apply W.sr
        apply oop; rfl; apply Pev.idx; rfl; exact yes; rfl; exact yes; rfl; rfl; intro hcond; omega
        apply oop; rfl; apply Pev.load_keptA; rfl; exact yes; exact .head _; rfl; intro hcond; assumption; rfl; intro hcond; (rw [add_block]; assumption); intro hcond; exact NotOwned.au
        apply OL.alloc; rfl; rfl; exact CellsL.agg; (intro bk hbk; simp only [AllLe, and_true] at hbk)
        apply OL.storeB; rfl; rfl; exact CellsL.agg; rfl; rfl; rfl; exact Swap.au; exact Put.au
        apply OL.nsr
        apply omv; rfl; rfl
        apply omv; rfl; rfl
        apply oop; rfl; apply Pev.idxB; rfl; exact yes; rfl; exact yes; rfl; intro hcond; omega; rfl
        apply oop; rfl; apply Pev.load_blk; rfl; exact yes; exact .tail _ (.head _); rfl; assumption
        apply omv; rfl; rfl
        apply oy; rfl; rfl; rfl; apply Pev.fld; rfl; exact yes; rfl
        apply oy; rfl; rfl; rfl; apply Pev.load_blk; rfl; exact fun h => h; exact .head _; rfl; rfl
        apply oy; rfl; rfl; rfl; apply Pev.move; rfl; exact yes
        apply oy; rfl; rfl; rfl; apply Pev.bin; rfl; exact fun h => h; rfl; exact fun h => h; intro hcond; apply Bin.neq
        apply oop; rfl; apply Pev.pick_and; rfl; exact yes; rfl; exact fun h => h
        apply omv; rfl; rfl
        apply oy; rfl; rfl; rfl; apply Pev.fld; rfl; exact yes; rfl
        apply oy; rfl; rfl; rfl; apply Pev.load_blk; rfl; exact fun h => h; exact .head _; rfl; rfl
        apply oy; rfl; rfl; rfl; apply Pev.fld; rfl; exact yes; rfl
        apply oy; rfl; rfl; rfl; apply Pev.load_blk; rfl; exact fun h => h; exact .tail _ (.tail _ (.head _)); rfl; rfl
        apply oy; rfl; rfl; rfl; apply Pev.len_slice; rfl; exact fun h => h; rfl
        apply oy; rfl; rfl; rfl; apply Pev.bin; rfl; exact fun h => h; rfl; exact yes; intro hcond; apply Bin.sub_in; omega
        (((first | (with_reducible apply OL.op) | (with_reducible apply QL.op)); (exact Guard.au); rfl; rfl); (exact Pev.call (v := .bool (decide (0 ≤ u.1.block) && decide (u.1.block ≤ (es.length : Int) - 1))) rfl (by exact Args.au) (fun _ w2 hw2 => (Within_calls u.1.block 0 ((es.length : Int) - 1) w2).mono (fun e w3 h => ⟨h.1, hw2.ext h.2⟩))))
        apply oop; rfl; apply Pev.pick_and; rfl; exact yes; rfl; exact fun h => h
        apply OL.nx
        refine W.cond rfl (fun h3 => ?_) (fun h3 => ?_)
        · simp at h3
          have hb0 : 0 ≤ u.1.block := by omega
          have hb1 : u.1.block < (es.length : Int) := by omega
          have hck' : C[k]? = some true := by rw [hck]; simpa using h3.1.1
          apply W.reg
          apply omv; rfl; rfl
          apply ofa; rfl; rfl; rfl
          apply old; rfl; rfl; exact .head _; rfl; rfl
          apply oop; rfl; apply Pev.idxB; rfl; exact yes; rfl; exact yes; rfl; intro hcond; omega; rfl
          (apply OL.storeI); rfl; rfl; rfl; rfl; rfl; (exact Swap.au); (rw [bls_length]; omega)
          rw [show (bls C).set (0 + u.1.block.toNat * 1) (.bool true) = bls (C.set u.1.block.toNat true) by rw [show 0 + u.1.block.toNat * 1 = u.1.block.toNat by omega]; exact bls_set _ _ _]
          apply OL.nil
          with_reducible apply At.in_normal
          with_reducible apply At.next
          apply W.reg
          apply obn; rfl; rfl; rfl; apply Bin.add_in; omega
          apply omv; rfl; rfl
          apply OL.nil
          exact At.again (j + 1, C.set u.1.block.toNat true) ⟨by simp only; omega, hRC.mark hGk hue hck' (by omega) ⟨hb0, by omega⟩⟩ (by simp only; omega) (by exact Sub.au) (fun w' hw' => hw'.thin (by exact Thin.au))
        · apply W.skip
          with_reducible apply At.in_normal
          with_reducible apply At.next
          apply W.reg
          apply obn; rfl; rfl; rfl; apply Bin.add_in; omega
          apply omv; rfl; rfl
          apply OL.nil
          refine At.again (j + 1, C) ⟨by simp only; omega, hRC.skip hGk hue ?_⟩ (by simp only; omega) (by exact Sub.au) (fun w' hw' => hw'.thin (by exact Thin.au))
          simp at h3
          by_cases e1 : C[k]? = some true
          · right
            have e2 : C.getD k false = true := by rw [hck] at e1; exact Option.some.inj e1
            by_cases e3 : u.1.block = v
            · exact .inl e3
            · right
              intro e4
              have := h3 (by simpa using e2) e3 e4.1
              omega
          · exact .inl e1
      · obtain rfl : j = ts.length := by omega
        refine W.xt ?_
        with_reducible apply At.in_normal
        with_reducible apply At.next
        apply W.reg
        apply obn; rfl; rfl; rfl; apply Bin.add_in; omega
        apply omv; rfl; rfl
        apply OL.nil
        refine At.again (k + 1, C) ⟨by simp only; omega, Rnd.next (l := p.1.term.to_.map Ed.block) (by rw [List.length_map, htl2]; exact hRC) hGk⟩ (by simp only; omega) (by exact Sub.au) (fun w' hw' => hw')
    · obtain rfl : k = es.length := by omega
      refine W.xt ?_
      with_reducible apply At.in_normal
      with_reducible apply At.next
      apply W.reg
      apply obn; rfl; rfl; rfl; apply Bin.add_in; omega
      apply omv; rfl; rfl
      apply OL.nil
      refine At.again (r + 1, B) ⟨by simp only; omega, hBl, hR.snd, hR.le.2 0 hz0, ?_⟩ (by simp only; omega) (by exact Sub.au) (fun w' hw' => hw')
      rcases hc0 with hc0 | hc0
      · exact .inl (hR.closed hc0 (fun _ _ => hz0))
      · rw [← hGl] at hR
        rcases hR.done with h5 | h5
        · exact .inl h5
        · exact .inr (by simp only; omega)
  · obtain rfl : r = es.length := by omega
    have hcl : Closed G v B0 := by
      rcases hc0 with hc0 | hc0
      · exact hc0
      · have := cntT_le B0
        omega
    refine W.xt ?_
    with_reducible apply At.next
    apply W.sr
    apply omv; rfl; rfl
    apply oas; rfl; rfl
    apply OL.nx
    apply W.ret
    ((with_reducible apply At.fin1); rfl; rfl; intro w' hw')
    exact ⟨bR, B0, rfl, hB0, closed_all hcl hs0 (fun _ _ => hz0), (hw'.thin (by exact Thin.au)).fr (by exact mau) (fun k hk => NotOwned.nil), hBR, hw'.item (by exact mau)⟩
end Go.Proofs.Ytehelljmaiophaa.ss

/- Nodes of four cells (two strings, two pointers), each in a block of its own: an item for a table of them; loads, stores of the pointers, new ones, comparisons of pointers. General. No condition. -/
namespace Go.Eng
open Go.RowKit
structure Nd where
  key : ByteArray
  val : ByteArray
  nx : Option Nat
  pr : Option Nat
abbrev NdT := Nat → Option Nd
def ptrO : Option Nat → Value | none => .pointer none | some k => .pointer (some ⟨k, 0, none⟩)
def ndc (x : Nd) : List Value := [.string x.key, .string x.val, ptrO x.nx, ptrO x.pr]
def nds (t : TypeId) (f : NdT) : Item :=
  ⟨fun k => (f k).isSome = true, fun w => ∀ k x, f k = some x → w.heap[k]? = some (.cells (ndc x).toArray t (0, 0)), fun w w' hk h k x hx => (hk k (by simp [hx])).trans (h k x hx)⟩
theorem NotOwned.nds {H : List Item} {t : TypeId} {f : NdT} {k : Nat} (h : f k = none) (r : NotOwned H k) : NotOwned (Eng.nds t f :: H) k := NotOwned.any (fun hm => by
  have hm' : (f k).isSome = true := hm
  rw [h] at hm'; cases hm') r
section
variable {P : Program} {n : Nat} {l : Env} {H : List Item} {S : List World} {C : World → Prop} {c : Bool} {d : Option Nat} {ty : TypeId} {pos : String} {af : Array Edge} {g : Option (Nat × Bool)}
variable {ops : Array Oper} {rest : List Oper} {Q : Exit → Act → World → Prop} {t : TypeId} {x y z : Operand} {cx cy cz : Bool}
theorem row_le {w : World} {base m cap size : Nat} {O : Nat → Prop} {q : Option Addr} {e : TypeId} {xs : List Value} (h : (row base O q m cap e size xs).holds w) : m ≤ cap := by
  rcases h.2.2 with ⟨h3, h4⟩ | ⟨g, cap', cur, h3, hb, hg, h4, h5⟩
  · omega
  · simp only [Value.slice.injEq] at h3
    obtain ⟨_, _, rfl⟩ := h3
    exact h4
theorem Thin.row {base m cap size : Nat} {O : Nat → Prop} {q : Option Addr} {e : TypeId} {xs : List Value} {H' : List Item} (hb : AllLe S base) (h : Thin S H H') : Thin S (Eng.row base O q m cap e size xs :: H) H' :=
  Thin.any (fun k hk => by
    have := hb.mem
    have hk' : base ≤ k := hk.1
    clear hk hb h
    induction S with
    | nil => trivial
    | cons s S ih => exact ⟨Nat.le_trans (this s (.head _)) hk', ih fun s hs => this s (.tail _ hs)⟩) h
theorem W.ex {α : Type} {code : Code} {C : α → World → Prop} (h : ∀ x, W P n code Q l (C x)) : W P n code Q l (fun w => ∃ x, C x w) := ⟨fun a w hs ⟨x, hc⟩ => (h x).run a w hs hc⟩
theorem OL.ex {α : Type} {C : α → World → Prop} (h : ∀ x, OL P n ops Q rest l (C x)) : OL P n ops Q rest l (fun w => ∃ x, C x w) := ⟨fun a w hs ⟨x, hc⟩ => (h x).run a w hs hc⟩
end
end Go.Eng

/- Rows: a full block is one; one row appended to another; a part of one; results of which the first stands in a block. General. No condition. -/
namespace Go.Eng
open Go.RowKit
section
variable {P : Program} {n : Nat} {l : Env} {H : List Item} {S : List World} {C : World → Prop} {c : Bool} {d : Option Nat} {ty : TypeId} {pos : String} {af : Array Edge} {g : Option (Nat × Bool)}
variable {ops : Array Oper} {rest : List Oper} {Q : Exit → Act → World → Prop}
variable {t : TypeId} {x y z : Operand} {cx cy cz : Bool}
theorem At.cls {e : Exit} {C' : World → Prop} (hc : ∀ w, C w → C' w) (h : At n Q e l C') : At n Q e l C := ⟨fun a w s c => h.run a w s (hc w c)⟩
theorem At.finCT {fn : Func} {R : Ending → World → Prop} {tt b k u : Nat} {t' : TypeId} {cs : List Value} {v : Value} (hr : fn.results = #[.cell tt ty, .tmp u]) (ht : look l tt = some (true, .pointer (some ⟨b, 0, none⟩))) (hp : blk b t' cs ∈ H) (hs : aggN P ty = some k) (hk : cs.length = k)
    (hu : look l u = some (true, v)) (h : ∀ w, Cls H S w → R (.returned (.tuple #[.agg cs.toArray, v])) w) : At n (bodyPost P fn R) .ret l (Cls H S) :=
  ⟨fun a w hs' hc => ⟨hs'.df, .tuple #[.agg cs.toArray, v], by
    have h1 := hs'.at_ tt true _ ht
    have h3 := hs'.at_ u true _ hu
    have h2 := run_loadVar_agg (P := P) (t := ty) (vs := cs) (a := ⟨b, 0, none⟩) (w := w) (by rw [hk]; exact hs) (fun j v hj => by rw [add_mid, Nat.zero_add, blk_cell (hc.item hp)]; exact hj)
    simp [results, hr, Array.getD_eq_getD_getElem?, h1, asAddr, h2, h3], h w hc⟩⟩
theorem At.finCTT {fn : Func} {R : Ending → World → Prop} {tt b k u u2 : Nat} {t' : TypeId} {cs : List Value} {v v2 : Value} (hr : fn.results = #[.cell tt ty, .tmp u, .tmp u2]) (ht : look l tt = some (true, .pointer (some ⟨b, 0, none⟩))) (hp : blk b t' cs ∈ H) (hs : aggN P ty = some k) (hk : cs.length = k)
    (hu : look l u = some (true, v)) (hu2 : look l u2 = some (true, v2)) (h : ∀ w, Cls H S w → R (.returned (.tuple #[.agg cs.toArray, v, v2])) w) : At n (bodyPost P fn R) .ret l (Cls H S) :=
  ⟨fun a w hs' hc => ⟨hs'.df, .tuple #[.agg cs.toArray, v, v2], by
    have h1 := hs'.at_ tt true _ ht
    have h3 := hs'.at_ u true _ hu
    have h4 := hs'.at_ u2 true _ hu2
    have h2 := run_loadVar_agg (P := P) (t := ty) (vs := cs) (a := ⟨b, 0, none⟩) (w := w) (by rw [hk]; exact hs) (fun j v hj => by rw [add_mid, Nat.zero_add, blk_cell (hc.item hp)]; exact hj)
    simp [results, hr, Array.getD_eq_getD_getElem?, h1, asAddr, h2, h3, h4], h w hc⟩⟩
end
end Go.Eng

/- Append of a slice that reads, of any length, to a grown row. General. No condition. -/
namespace Go.Eng
open Go.RowKit
section
variable {P : Program} {n : Nat} {l : Env} {H : List Item} {S : List World} {C : World → Prop} {ty : TypeId} {pos : String} {af : Array Edge}
variable {ops : Array Oper} {rest : List Oper} {Q : Exit → Act → World → Prop} {t : TypeId} {x y : Operand}
theorem run_append_src_nil2 {w : World} {ty e : TypeId} {i : TypeInfo} {q : Option Addr} {m cap cap2 : Nat} (ht : P.underlying t = some (.slice e)) (hi : P.info? e = some i) (hc : m ≤ cap) :
    (Builtin.append_ #[t, t] ty #[.slice q m cap, .slice none 0 cap2]).run P w = .ok (.slice q m cap) w := by
  cases q <;> simp [Builtin.append_, run_underlying ht, sizeOf, typeInfo, hi, Builtin.lenOf, hc, Builtin.firstCells, loadCells, loadCellsFrom, storeCells]
theorem OL.appendK {F : Item → List Item} {e : TypeId} {dd sz bb p m cap cap2 m2 base : Nat} {O : Nat → Prop} {q q2 : Option Addr} {xs news : List Value}
    (hx : evl l x = some (true, .slice q m cap)) (hy : evl l y = some (true, .slice q2 m2 cap2)) (hn : Nat.ble (dd + 1) n = true)
    (hu : rowElem P t = some (e, sz, bb)) (hp' : Hole p H (row base O q m cap e sz xs) F) (hsl : ∀ w, Cls H S w → SlAt w w.heap.size q2 news) (hl : news.length = m2 * sz) (h1 : oneL news = true)
    (hs : ∃ s ∈ S, base ≤ s.heap.size) (hlim : (m + m2) ≤ 9223372036854775807 ∧ (m + m2) * bb ≤ 140737488355328)
    (k : ∀ (O' : Nat → Prop) (q' : Option Addr) (cap' : Nat), OL P n ops Q rest ((dd, true, .slice q' (m + m2) cap') :: l) (Cls (F (row base O' q' (m + m2) cap' e sz (xs ++ news))) S)) :
    OL P n ops Q (⟨some dd, .call { callee := .builtin .append, args := #[x, y], argTypes := #[t, t] }, ty, pos, af, none⟩ :: rest) l (Cls H S) := by
  have hp := hp'.eq.1
  have hF := hp'.eq.2
  refine OL.newT (α := (Nat → Prop) × Option Addr × Nat) (C' := fun r w => Cls (H.set p (row base r.1 r.2.1 (m + m2) r.2.2 e sz (xs ++ news))) S w) rfl rfl hn (fun r => .slice r.2.1 (m + m2) r.2.2) (fun a w hs' hc => ?_) (fun r => by rw [← hF]; exact k r.1 r.2.1 r.2.2)
  obtain ⟨i, z, g1, g2, g3, g4, g5, g6, g7⟩ := rowElem_spec hu
  obtain ⟨s, hsm, hsb⟩ := hs
  have hbw : base ≤ w.heap.size := Nat.le_trans hsb (hc.kp s hsm).size
  have hi := hc.item (List.mem_of_getElem? hp)
  cases q2 with
  | none =>
    have hm2 : news = [] := by
      cases news with
      | nil => rfl
      | cons v r =>
        obtain ⟨a, ha, _⟩ := hsl w hc (by simp)
        cases ha
    subst hm2
    have hm0 : m2 = 0 := by
      rcases Nat.eq_zero_or_pos m2 with h0 | h0
      · exact h0
      · have := Nat.mul_pos h0 g7
        simp at hl
        omega
    subst hm0
    refine ⟨(O, q, cap), w, ?_, ?_⟩
    · simp only [execOp, resolve, invoke, builtin, Sem.run_bind, Sem.run_pure, Result.andThen_ok, List.map_toArray, List.map_cons, List.map_nil, hs'.eval hx rfl, hs'.eval hy rfl, run_append_src_nil2 (P := P) (cap2 := cap2) (w := w) (ty := ty) (q := q) g1 g2 (row_le hi)]
      rfl
    · simp only [List.append_nil, Nat.add_zero]
      rwa [set_same hp]
  | some ad =>
    have hnews : ∀ j u, news[j]? = some u → w.cell? (ad.add j) = some u := fun j u hj => by
      obtain ⟨a, ha, _, hca⟩ := hsl w hc (by have := (List.getElem?_eq_some_iff.1 hj).1; omega)
      obtain rfl := Option.some.inj ha
      exact hca j u hj
    obtain ⟨v', w', hr, h2, h3, h4, h5⟩ := run_append_own_at (P := P) (w := w) base t ty e i z sz bb g1 g2 g3 g4 g5 g6 g7 _ m xs hi.2 ad m2 cap2 news hl hnews (fun u hu => oneL_mem h1 u hu) hlim.1 hlim.2 hbw
    have hown : ∀ k, some k = (Value.slice q m cap).ownBlock → base ≤ k ∧ O k := fun k hk => by
      cases q with
      | none => simp [Value.ownBlock] at hk
      | some a =>
        simp only [Value.ownBlock, Option.some.injEq] at hk
        subst hk
        exact ⟨(World.ownsRow.lt hi.2 _ rfl).1, hi.1 _ rfl⟩
    rcases h2.2 with ⟨rfl, h0⟩ | ⟨g', cap', cur, rfl, hb', hg', hrest⟩
    · refine ⟨(O, none, 0), w', ?_, ?_⟩
      · simp only [execOp, resolve, invoke, builtin, Sem.run_bind, Sem.run_pure, Result.andThen_ok, List.map_toArray, List.map_cons, List.map_nil, hs'.eval hx rfl, hs'.eval hy rfl, hr, h0]
      · rw [h0] at h2 ⊢
        refine hc.turn p hp (j := row base O none 0 0 e sz (xs ++ news)) ⟨h3.os, h3.tape, h3.output, h3.size, fun k hk hO => h3.block k hk (fun e => hO (hown k e))⟩ ⟨fun a ha => (by cases ha), h2⟩ (fun k hk => ⟨.inl hk, Nat.lt_of_lt_of_le (hc.lt _ (List.mem_of_getElem? hp) k hk) h3.size⟩) (fun k hk => hk)
    · refine ⟨(fun k => O k ∨ k = g', some ⟨g', 0, none⟩, cap'), w', ?_, ?_⟩
      · simp only [execOp, resolve, invoke, builtin, Sem.run_bind, Sem.run_pure, Result.andThen_ok, List.map_toArray, List.map_cons, List.map_nil, hs'.eval hx rfl, hs'.eval hy rfl, hr]
      · refine hc.turn p hp (j := row base (fun k => O k ∨ k = g') (some ⟨g', 0, none⟩) (m + m2) cap' e sz (xs ++ news)) ⟨h3.os, h3.tape, h3.output, h3.size, fun k hk hO => h3.block k hk (fun e => hO (hown k e))⟩ ?_ ?_ ?_
        · exact ⟨fun a ha => by cases ha; exact .inr rfl, h2⟩
        · intro k hk
          have hlt : g' < w'.heap.size := (Array.getElem?_eq_some_iff.1 hg').1
          rcases hk.2 with h | h
          · exact ⟨.inl ⟨hk.1, h⟩, Nat.lt_of_lt_of_le (hc.lt _ (List.mem_of_getElem? hp) k ⟨hk.1, h⟩) h3.size⟩
          · subst h
            refine ⟨?_, hlt⟩
            rcases h5 with h5 | h5
            · exact .inl (hown k (by rw [← h5]; rfl))
            · simp only [Value.ownBlock, Option.some.injEq] at h5
              exact .inr (by omega)
        · exact fun k hk => ⟨hk.1, .inl hk.2⟩
end
end Go.Eng

/- The walks of the reference's Over, Operands, usable and FuncErr. Conditions: none. -/
namespace Go.Eng
open Go.RowKit
section
variable {P : Program} {n : Nat} {l : Env} {C : World → Prop} {c : Bool} {ty : TypeId} {pos : String} {af : Array Edge} {g : Option (Nat × Bool)}
variable {ops : Array Oper} {rest : List Oper} {Q : Exit → Act → World → Prop}
theorem Pev.void {o : Oper} {v : Value} (h : c = false) : Pev P n l C o c v := ⟨fun hc => by rw [h] at hc; cases hc⟩
theorem OL.callG {α : Type} (V : α → Value) (Φ : α → Prop) (C' : α → World → Prop) {f : FuncId} {args : List Operand} {vs : List Value} {ats : Array TypeId} {dd : Nat} (hg : Guard l ops g c) (hc1 : c = true) (hn : Nat.ble (dd + 1) n = true) (hf : callable P f = true) (ha : Args l c args vs)
    (h : ∀ w, C w → Calls P f vs.toArray w fun e w' => ∃ x, e = .returned (V x) ∧ Φ x ∧ C' x w')
    (k : ∀ x, Φ x → OL P n ops Q rest ((dd, true, V x) :: l) (C' x)) : OL P n ops Q (⟨some dd, .call { callee := .value (.func f), args := args.toArray, argTypes := ats }, ty, pos, af, g⟩ :: rest) l C := by
  have hn' := Nat.le_of_ble_eq_true hn
  refine ⟨fun a w hs hc => ?_⟩
  unfold wpList
  rw [Guard.wanted (o := ⟨some dd, .call { callee := .value (.func f), args := args.toArray, argTypes := ats }, ty, pos, af, g⟩) hs hg, hc1]
  refine .inl ?_
  show Oper.upon P _ a _ Q ((execOp a.eval _).run P w)
  rw [run_call hf]
  show Calls P f _ w _
  rw [List.map_toArray, ha.map hs hc1]
  refine (h w hc).mono fun e w' ⟨x, he, hx, hc'⟩ => ?_
  subst he
  exact (k x hx).run _ w' (hs.put hn' true _) hc'
end
end Go.Eng
namespace Go.Ss
open Go.Eng Go.RowKit
theorem ints_one (l : List Int) : oneL (ints l) = true := by
  induction l with
  | nil => rfl
  | cons x r ih => simp only [ints, List.map_cons, oneL] at ih ⊢; rw [ih]; rfl
theorem flat_le : ∀ {l : List Ed} (n : Nat), ((l.take n).flatMap Ed.args).length ≤ (l.flatMap Ed.args).length
  | [], n => by simp
  | e :: l, 0 => by simp
  | e :: l, n + 1 => by
    have := flat_le (l := l) n
    simp only [List.take_succ_cons, List.flatMap_cons, List.length_append]
    omega
end Go.Ss
namespace Go.Proofs.Ytehelljmaiophaa.ss
set_option maxRecDepth 100000
open Go.Eng Go.RowKit Go.Ss
theorem Over_calls (es : List (Bk × BkY)) (q : Option Addr) (cap : Nat) (nm : Int) (a b : Nat) (w : World) (he : Arr bkR w (low w) es q) (hlen : es.length ≤ 140737488355328) (hb : b < es.length) :
    Calls Try.prog 49 [.agg #[.int .i64 nm, .slice q es.length cap], .int .i64 (a : Int), .int .i64 (b : Int)].toArray w fun e w' => ∃ r : Bool, e = .returned (.bool r) ∧ (r = true ↔ Ovr (graphB (es.map Prod.fst)) a b) ∧ Ext w w' := by
  refine enter Try.func49 rfl Try.ntmps49 rfl (Cls.start w) ?_
  (simp only [argEnv, Nat.zero_add, Nat.reduceAdd])
  apply W.sr
  apply OL.box; rfl; rfl; exact CellsL.agg; (intro bk hbk; simp only [AllLe, and_true] at hbk)
  apply oas; rfl; rfl
  apply OL.nsr
  apply omv; rfl; rfl
  apply omv; rfl; rfl
  apply obn; rfl; rfl; rfl; apply Bin.eql
  apply omv; rfl; rfl
  apply ono; rfl; rfl; rfl; apply Pev.load_blkA; rfl; exact yes; exact .head _; rfl; exact Take.au
  apply ono; rfl; rfl; rfl; apply Pev.move; rfl; exact yes
  by_cases hab : a = b
  · (((first | (with_reducible apply OL.op) | (with_reducible apply QL.op)); (exact Guard.au); rfl; rfl); (exact Pev.void (v := .slice none 0 0) (by simp; omega)))
    apply ono; rfl; rfl; rfl; apply Pev.move; rfl; exact yes
    apply OL.gateOff; exact Guard.no rfl rfl; (simp; omega); rfl
    apply OL.gateOff; exact Guard.no rfl rfl; (simp; omega); rfl
    apply OL.gateOff; exact Guard.no rfl rfl; (simp; omega); rfl
    apply oop; rfl; apply Pev.pick_on; rfl; exact yes; (intro hcond; simp; omega); rfl; exact yes
    apply oas; rfl; rfl
    apply OL.nx
    apply W.ret
    ((with_reducible apply At.fin1); rfl; rfl; intro w' hw')
    exact ⟨_, rfl, ⟨fun _ => .inl hab, fun _ => by simp [hab]⟩, by (exact hw'.fr)⟩
  · revert bk
    intro bF hbF
    refine OL.callG (α := Nat × List Bool) (fun z => .slice (some ⟨z.1, 0, none⟩) es.length es.length) (fun z => w.heap.size ≤ z.1 ∧ z.2.length = es.length ∧ ∀ k : Nat, z.2[k]? = some true ↔ Rc (graphB (es.map Prod.fst)) (a : Int) k) (fun z => Cls (blk z.1 4 (bls z.2) :: [blk bF 24 [.int .i64 nm, .slice q es.length cap]]) [w]) Guard.au (by simp; omega) rfl rfl (by exact Args.au) (fun w2 hw2 => (Reach_calls es q cap nm (a : Int) w2 (he.at hw2 (by exact mau) (fun k hk => by exact NotOwned.au)) hlen).mono fun e w3 ⟨bR, B, h1, h2, h3, h4, h5, h6⟩ => ⟨(bR, B), h1, ⟨Nat.le_trans (hw2.kp w (by exact mau)).size h5, h2, h3⟩, hw2.add h4 _ h6 (fun k hk => by rw [show k = bR from hk]; exact ⟨h5, blk_lt h6⟩)⟩) ?_
    rintro ⟨bR, B⟩ ⟨hbR, hBl, hB⟩
    simp only at hbR hBl hB ⊢
    have hbk : B[b]? = some (B.getD b false) := getD_true (by omega)
    have hbv : (bls B)[0 + (b : Int).toNat * 1]? = some (.bool (B.getD b false)) := by
      rw [show 0 + (b : Int).toNat * 1 = b by omega]
      exact bls_get hbk
    apply ono; rfl; rfl; rfl; apply Pev.move; rfl; exact yes
    apply ono; rfl; rfl; rfl; apply Pev.idxB; rfl; exact yes; rfl; exact fun h => h; rfl; intro hcond; omega; rfl
    apply ono; rfl; rfl; rfl; apply Pev.load_blk; rfl; exact fun h => h; exact .head _; rfl; assumption
    apply ono; rfl; rfl; rfl; apply Pev.not; rfl; exact fun h => h
    apply oop; rfl; apply Pev.pick_or; rfl; exact yes; rfl; exact fun h => h
    apply oas; rfl; rfl
    apply OL.nx
    apply W.ret
    ((with_reducible apply At.fin1); rfl; rfl; intro w' hw')
    refine ⟨_, rfl, ?_, (hw'.thin (.any (fun k hk => ?_) (by exact Thin.au))).fr (by exact mau) (fun k hk => NotOwned.nil)⟩
    · have h9 : decide ((a : Int) = (b : Int)) = false := decide_eq_false (by omega)
      rw [h9]
      unfold Ovr
      rw [← hB b, hbk]
      simp [hab]
    · rw [show k = bR from hk]
      exact ⟨hbR, trivial⟩
theorem Operands_calls (t : Tm) (y : TmY) (w : World) (ht : TmOk w (low w) t y) (hlim : (operT t).length ≤ 1000000000) :
    Calls Try.prog 59 [.agg (tmC t y).toArray].toArray w fun e w' => ∃ (q : Option Addr) (c : Nat), e = .returned (.slice q (operT t).length c) ∧ Ext w w' ∧ IntsO w' (fresh w w') (operT t) q := by
  obtain ⟨ts, hts, harr⟩ := ht.t
  have htl := ht.tl
  have htl2 : t.to_.length = ts.length := by rw [← hts, List.length_map]
  refine enter Try.func59 rfl Try.ntmps59 rfl (Cls.start w) ?_
  (simp only [argEnv, Nat.zero_add, Nat.reduceAdd])
  simp only [tmC]
  apply W.sr
  apply OL.box; rfl; rfl; exact CellsL.agg; (intro bk hbk; simp only [AllLe, and_true] at hbk)
  apply oas; rfl; rfl
  apply OL.nsr
  apply oas; rfl; rfl
  apply OL.nx
  apply W.seq
  apply W.sr
  apply ofa; rfl; rfl; rfl
  apply old; rfl; rfl; exact .head _; rfl; rfl
  apply obn; rfl; rfl; rfl; apply Bin.eql
  apply omv; rfl; rfl
  apply ono; rfl; rfl; rfl; apply Pev.fld; rfl; exact yes; rfl
  apply ono; rfl; rfl; rfl; apply Pev.load_blk; rfl; exact fun h => h; exact .head _; rfl; rfl
  apply ono; rfl; rfl; rfl; apply Pev.bin; rfl; exact fun h => h; rfl; exact yes; intro hcond; apply Bin.eql
  apply oop; rfl; apply Pev.pick_or; rfl; exact yes; rfl; exact fun h => h
  apply omv; rfl; rfl
  apply ono; rfl; rfl; rfl; apply Pev.fld; rfl; exact yes; rfl
  apply ono; rfl; rfl; rfl; apply Pev.load_blk; rfl; exact fun h => h; exact .head _; rfl; rfl
  apply ono; rfl; rfl; rfl; apply Pev.bin; rfl; exact fun h => h; rfl; exact yes; intro hcond; apply Bin.eql
  apply oop; rfl; apply Pev.pick_or; rfl; exact yes; rfl; exact fun h => h
  apply OL.nx
  revert bk
  intro bT hbT
  obtain ⟨pre, hpre⟩ : ∃ pre, (if t.kind = 0 ∨ t.kind = 2 ∨ t.kind = 3 then [t.arg] else []) = pre := ⟨_, rfl⟩
  have hop : operT t = pre ++ t.to_.flatMap Ed.args := by rw [← hpre]; rfl
  have hpl : pre.length ≤ 1 := by rw [← hpre]; split <;> simp
  have hol : (pre ++ t.to_.flatMap Ed.args).length ≤ 1000000000 := by rw [← hop]; exact hlim
  rw [hop]
  refine W.joinx (G := GR) (fun _ => True) (fun g => [(1, true, .pointer (some ⟨bT, 0, none⟩)), (3, true, .slice g.q pre.length g.c)]) (fun g => Cls [row w.heap.size g.O g.q pre.length g.c 3 1 (ints pre), blk bT 39 [.int .i64 t.kind, .int .i64 t.arg, .int .i64 t.n, .slice y.c.1 t.cases.length y.c.2, .slice y.t.1 t.to_.length y.t.2]] [w]) ?_ ?_
  · refine W.cls (fun w' hw' => hw'.row_nil w.heap.size 3 1) ?_
    refine W.cond rfl (fun h1 => ?_) (fun h1 => ?_)
    · have : pre = [t.arg] := by rw [← hpre, if_pos (by simp at h1; omega)]
      rw [this]
      apply W.reg
      apply omv; rfl; rfl
      apply ofa; rfl; rfl; rfl
      apply old; rfl; rfl; exact .tail _ (.head _); rfl; rfl
      apply OL.buildSlice; rfl; rfl; rfl; exact Elems.au; rfl; rfl; (intro bk hbk; simp only [AllLe, and_true] at hbk)
      apply OL.append; rfl; rfl; rfl; rfl; exact Hole.au; exact .head _; exact Take.au; rfl; rfl; exact ⟨_, .head _, Nat.le_refl _⟩; omega; intro O1 g1 cap1
      apply oas; rfl; rfl
      apply OL.nil
      exact At.joinedx ⟨O1, some ⟨g1, 0, none⟩, cap1⟩ trivial (by exact Sub.au) (fun w' hw' => hw'.thin (by exact Thin.au))
    · have : pre = [] := by rw [← hpre, if_neg (by simp at h1; omega)]
      rw [this]
      apply W.skip
      exact At.joinedx ⟨_, _, _⟩ trivial (by exact Sub.au) (fun w' hw' => hw')
  rintro ⟨O0, q0, c0⟩ _
  simp only
  apply W.seq
  apply W.sr
  apply ofa; rfl; rfl; rfl
  apply old; rfl; rfl; exact .tail _ (.head _); rfl; rfl
  apply oop; rfl; apply Pev.len_slice; rfl; exact yes; rfl
  apply omv; rfl; rfl
  apply OL.nx
  apply W.block
  refine W.loop (G := Nat × GR) (fun g => g.1 ≤ ts.length) (fun g => ts.length - g.1)
    (fun g => [(3, true, .slice g.2.q (pre ++ (t.to_.take g.1).flatMap Ed.args).length g.2.c), (25, true, .slice y.t.1 ts.length y.t.2), (26, true, .int .i64 (ts.length : Int)), (27, true, .int .i64 (g.1 : Int))])
    (fun g => Cls [row w.heap.size g.2.O g.2.q (pre ++ (t.to_.take g.1).flatMap Ed.args).length g.2.c 3 1 (ints (pre ++ (t.to_.take g.1).flatMap Ed.args))] [w]) (0, ⟨O0, q0, c0⟩) (by simp) (by simp only [List.take_zero, List.flatMap_nil, List.append_nil]; rw [htl2]; exact Sub.au) (fun w' hw' => by simp only [List.take_zero, List.flatMap_nil, List.append_nil]; exact hw'.thin (by exact Thin.au)) ?_
  rintro ⟨j, ⟨Op, qp, cp⟩⟩ hj
  simp only at hj ⊢
  apply W.sr
  apply obn; rfl; rfl; rfl; apply Bin.lss
  apply OL.nx
  apply W.seq
  (refine W.cnd (fun hlt => ?_) (fun hlt => ?_)) <;> (try (exfalso; first | omega | exact hlt trivial | contradiction))
  · have hjl : j < ts.length := by omega
    obtain ⟨ae, u, hqt, hatb, hu, hcu, hoku⟩ := harr.get hjl
    have hatb : ae.block < w.heap.size := hatb
    have hcu : CellsAt w (ae.add (j * 2)) [.int .i64 u.1.block, .slice u.2.1 u.1.args.length u.2.2] := hcu
    have hue : t.to_[j]? = some u.1 := by rw [← hts, List.getElem?_map, hu]; rfl
    have hnx : pre ++ (t.to_.take (j + 1)).flatMap Ed.args = (pre ++ (t.to_.take j).flatMap Ed.args) ++ u.1.args := by
      rw [List.take_add_one, hue]
      simp
    have hle := flat_le (l := t.to_) (j + 1)
    have hln : (pre ++ (t.to_.take (j + 1)).flatMap Ed.args).length ≤ 1000000000 := by
      rw [List.length_append] at hol ⊢
      omega
    rw [hnx, List.length_append] at hln
    generalize pre ++ (t.to_.take j).flatMap Ed.args = xs at *
    rw [hqt]
    apply W.sk
    apply W.sb
    apply W.sr
    apply oop; rfl; apply Pev.idx; rfl; exact yes; rfl; exact yes; rfl; rfl; intro hcond; omega
    apply oop; rfl; apply Pev.load_keptA; rfl; exact yes; exact .head _; rfl; intro hcond; assumption; rfl; intro hcond; (rw [add_block]; assumption); intro hcond; exact NotOwned.au
    apply OL.alloc; rfl; rfl; exact CellsL.agg; (intro bk hbk; simp only [AllLe, and_true] at hbk)
    apply OL.storeB; rfl; rfl; exact CellsL.agg; rfl; rfl; rfl; exact Swap.au; exact Put.au
    apply OL.nx
    apply W.reg
    apply omv; rfl; rfl
    apply ofa; rfl; rfl; rfl
    apply old; rfl; rfl; exact .head _; rfl; rfl
    (apply OL.appendK (news := ints u.1.args)); rfl; rfl; rfl; rfl; (exact Hole.au); (exact fun w2 hw2 => (hoku.2.2.1.at hw2 (.head _) (fun k hk => by exact NotOwned.au)).slAt); (rw [ints_length, Nat.mul_one]); (exact ints_one _); (exact ⟨w, .head _, Nat.le_refl _⟩); (omega); (intro O1 q1 c1)
    rw [← ints_append]
    apply oas; rfl; rfl
    apply OL.nil
    with_reducible apply At.in_normal
    with_reducible apply At.next
    apply W.reg
    apply obn; rfl; rfl; rfl; apply Bin.add_in; omega
    apply omv; rfl; rfl
    apply OL.nil
    refine At.again (j + 1, ⟨O1, q1, c1⟩) (by simp only; omega) (by simp only; omega) (by simp only [hnx, List.length_append]; exact Sub.au) (fun w' hw' => ?_)
    simp only [hnx, List.length_append]
    exact hw'.thin (by exact Thin.au)
  · obtain rfl : j = ts.length := by omega
    rw [← htl2, List.take_length]
    refine W.xt ?_
    with_reducible apply At.next
    apply W.sr
    apply omv; rfl; rfl
    apply oas; rfl; rfl
    apply OL.nx
    apply W.ret
    ((with_reducible apply At.fin1); rfl; rfl; intro w' hw')
    exact ⟨qp, cp, rfl, by (exact hw'.fr), rowInts hw' (.head _) (Nat.le_refl _)⟩
theorem usable_calls (es : List (Bk × BkY)) (q : Option Addr) (cap : Nat) (nm v : Int) (k at_ bR : Nat) (B : List Bool) (w : World) (he : Arr bkR w (low w) es q) (hlen : es.length ≤ 140737488355328) (hk : k < es.length) (hsh : shapeE (es.map Prod.fst) = 0)
    (hBl : B.length = es.length) (hB : B[k]? = some true ↔ Rc (graphB (es.map Prod.fst)) (-1) k) (hbl : (blk bR 4 (bls B)).holds w) :
    Calls Try.prog 58 [.agg #[.int .i64 nm, .slice q es.length cap], .int .i64 v, .int .i64 (k : Int), .int .i64 (at_ : Int), .slice (some ⟨bR, 0, none⟩) es.length es.length].toArray w fun e w' => ∃ r : Bool, e = .returned (.bool r) ∧ (r = true ↔ Fine (es.map Prod.fst) v k at_) ∧ Ext w w' := by
  obtain ⟨bs, hbs⟩ : ∃ bs, es.map Prod.fst = bs := ⟨_, rfl⟩
  have hbsl : bs.length = es.length := by rw [← hbs, List.length_map]
  rw [hbs] at hsh hB ⊢
  have hbR : bR < w.heap.size := blk_lt hbl
  have hbk : B[k]? = some (B.getD k false) := getD_true (by omega)
  have hbv : w.cell? ⟨bR, 0 + (k : Int).toNat * 1, none⟩ = some (.bool (B.getD k false)) := by
    rw [blk_cell hbl, show 0 + (k : Int).toNat * 1 = k by omega]
    exact bls_get hbk
  have hBk : B.getD k false = true ↔ Rc (graphB bs) (-1) k := by rw [← hB, hbk]; simp
  have huniq : ∀ b a b' a', DefAt bs v b a → DefAt bs v b' a' → b = b' ∧ a = a' := fun b a b' a' h1 h2 => by
    have h3 := (plget_iff hsh).2 h1
    rw [(plget_iff hsh).2 h2] at h3
    have := Option.some.inj h3
    exact ⟨(Prod.mk.inj this).1.symm, (Prod.mk.inj this).2.symm⟩
  generalize hz : B.getD k false = z at *
  refine enter Try.func58 rfl Try.ntmps58 rfl (Cls.start w) ?_
  (simp only [argEnv, Nat.zero_add, Nat.reduceAdd])
  apply W.sr
  apply OL.box; rfl; rfl; exact CellsL.agg; (intro bk hbk; simp only [AllLe, and_true] at hbk)
  apply oas; rfl; rfl
  apply OL.nx
  apply W.seq
  apply W.sr
  apply ofa; rfl; rfl; rfl
  apply old; rfl; rfl; exact .head _; rfl; rfl
  apply oop; rfl; apply Pev.len_slice; rfl; exact yes; rfl
  apply omv; rfl; rfl
  apply OL.nx
  apply W.block
  revert bk
  intro bF hbF
  refine W.loop (G := Nat) (fun n => n ≤ es.length ∧ ∀ m a, m < n → DefAt bs v m a → ¬ (m ≠ k ∨ a ≤ at_ ∨ z = false)) (fun n => es.length - n)
    (fun n => [(1, true, .int .i64 v), (2, true, .int .i64 (k : Int)), (3, true, .int .i64 (at_ : Int)), (4, true, .slice (some ⟨bR, 0, none⟩) es.length es.length), (5, true, .pointer (some ⟨bF, 0, none⟩)), (17, true, .slice q es.length cap), (18, true, .int .i64 (es.length : Int)), (19, true, .int .i64 (n : Int))])
    (fun n => Cls [blk bF 24 [.int .i64 nm, .slice q es.length cap]] [w]) 0 ⟨by omega, fun m a h => by omega⟩ (by exact Sub.au) (fun w' hw' => hw') ?_
  rintro n ⟨hn, hn0⟩
  apply W.sr
  apply obn; rfl; rfl; rfl; apply Bin.lss
  apply OL.nx
  apply W.seq
  (refine W.cnd (fun hlt => ?_) (fun hlt => ?_)) <;> (try (exfalso; first | omega | exact hlt trivial | contradiction))
  · have hnl : n < es.length := by omega
    obtain ⟨a, p, hqa, hab, hp, hcell, hok⟩ := he.get hnl
    have hab : a.block < w.heap.size := hab
    have hcell : CellsAt w (a.add (n * 7)) [.slice p.2.p.1 p.1.params.length p.2.p.2, .slice p.2.i.1 p.1.ins.length p.2.i.2, .int .i64 p.1.term.kind, .int .i64 p.1.term.arg, .int .i64 p.1.term.n, .slice p.2.t.c.1 p.1.term.cases.length p.2.t.c.2, .slice p.2.t.t.1 p.1.term.to_.length p.2.t.t.2] := hcell
    have hbsn : bs[n]? = some p.1 := by rw [← hbs, List.getElem?_map, hp]; rfl
    have hpl := hok.pl
    have hil := hok.il
    obtain ⟨pi, hpi, hiarr⟩ := hok.i
    have hpil : p.1.ins.length = pi.length := by rw [← hpi, List.length_map]
    rw [hqa]
    apply W.sk
    apply W.sb
    apply W.sr
    apply omv; rfl; rfl
    apply oop; rfl; apply Pev.idx; rfl; exact yes; rfl; exact yes; rfl; rfl; intro hcond; omega
    apply oop; rfl; apply Pev.load_keptA; rfl; exact yes; exact .head _; rfl; intro hcond; assumption; rfl; intro hcond; (rw [add_block]; assumption); intro hcond; exact NotOwned.au
    apply OL.alloc; rfl; rfl; exact CellsL.agg; (intro bk hbk; simp only [AllLe, and_true] at hbk)
    apply oas; rfl; rfl
    apply OL.storeB; rfl; rfl; exact CellsL.agg; rfl; rfl; rfl; exact Swap.au; exact Put.au
    apply OL.nsr
    apply ofa; rfl; rfl; rfl
    apply old; rfl; rfl; exact .head _; rfl; rfl
    apply omv; rfl; rfl
    revert bk
    intro b12 hb12
    have hb121 : w.heap.size ≤ b12 := by first | exact hb12 | exact hb12.1
    (((first | (with_reducible apply OL.op) | (with_reducible apply QL.op)); (exact Guard.au); rfl; rfl); (exact Pev.call (v := .bool (decide (v ∈ p.1.params))) rfl (by exact Args.au) (fun _ w2 hw2 => (HasInt_calls p.2.p.1 p.2.p.2 p.1.params v w2 (by omega) (hok.p.at hw2 (by exact mau) (fun k hk => by exact NotOwned.au))).mono (fun e w3 h => ⟨h.1, hw2.ext h.2⟩))))
    apply oas; rfl; rfl
    apply OL.nx
    apply W.seq
    apply W.sr
    apply ofa; rfl; rfl; rfl
    apply old; rfl; rfl; exact .head _; rfl; rfl
    apply oop; rfl; apply Pev.len_slice; rfl; exact yes; rfl
    apply omv; rfl; rfl
    apply OL.nx
    apply W.block
    refine W.loop (G := Nat × Bool) (fun g => g.1 ≤ pi.length ∧ (g.2 = true ↔ ∃ a, a ≤ g.1 ∧ DefAt bs v n a ∧ (n ≠ k ∨ a ≤ at_ ∨ z = false))) (fun g => pi.length - g.1)
      (fun g => [(1, true, .int .i64 v), (2, true, .int .i64 (k : Int)), (3, true, .int .i64 (at_ : Int)), (4, true, .slice (some ⟨bR, 0, none⟩) es.length es.length), (5, true, .pointer (some ⟨bF, 0, none⟩)), (11, true, .int .i64 (n : Int)), (13, true, .bool g.2), (17, true, .slice (some a) es.length cap), (18, true, .int .i64 (es.length : Int)), (19, true, .int .i64 (n : Int)), (29, true, .slice p.2.i.1 pi.length p.2.i.2), (30, true, .int .i64 (pi.length : Int)), (31, true, .int .i64 (g.1 : Int))])
      (fun g => Cls [blk bF 24 [.int .i64 nm, .slice (some a) es.length cap]] [w]) (0, decide (v ∈ p.1.params)) ⟨by simp, ?_⟩ (by rw [← hpil]; exact Sub.au) (fun w' hw' => hw'.thin (.any (fun k hk => by rw [show k = b12 from hk]; exact ⟨hb121, trivial⟩) Thin.same)) ?_
    · simp only [decide_eq_true_eq]
      constructor
      · intro h
        exact ⟨0, by omega, ⟨p.1, hbsn, .inl ⟨rfl, h⟩⟩, .inr (.inl (Nat.zero_le _))⟩
      · rintro ⟨a', h1, ⟨x, hx, h2⟩, _⟩
        rw [hbsn] at hx
        obtain rfl := Option.some.inj hx
        rcases h2 with ⟨_, h2⟩ | ⟨j, i, h2, _⟩
        · exact h2
        · omega
    rintro ⟨j, hh⟩ ⟨hj, hh0⟩
    simp only at hj hh0 ⊢
    apply W.sr
    apply obn; rfl; rfl; rfl; apply Bin.lss
    apply OL.nx
    apply W.seq
    (refine W.cnd (fun hlt2 => ?_) (fun hlt2 => ?_)) <;> (try (exfalso; first | omega | exact hlt2 trivial | contradiction))
    · have hjl : j < pi.length := by omega
      obtain ⟨ai, u, hqi, haib, hu, hcu, hoku⟩ := hiarr.get hjl
      have haib : ai.block < w.heap.size := haib
      have hcu : CellsAt w (ai.add (j * 4)) [.int .i64 u.1.to_, .int .i64 u.1.op, .int .i64 u.1.n, .slice u.2.1 u.1.args.length u.2.2] := hcu
      have hui : p.1.ins[j]? = some u.1 := by rw [← hpi, List.getElem?_map, hu]; rfl
      rw [hqi]
      apply W.sk
      apply W.sb
      apply W.sr
      apply omv; rfl; rfl
      apply oop; rfl; apply Pev.idx; rfl; exact yes; rfl; exact yes; rfl; rfl; intro hcond; omega
      apply oop; rfl; apply Pev.load_keptA; rfl; exact yes; exact .head _; rfl; intro hcond; assumption; rfl; intro hcond; (rw [add_block]; assumption); intro hcond; exact NotOwned.au
      apply OL.alloc; rfl; rfl; exact CellsL.agg; (intro bk hbk; simp only [AllLe, and_true] at hbk)
      apply oas; rfl; rfl
      apply OL.storeB; rfl; rfl; exact CellsL.agg; rfl; rfl; rfl; exact Swap.au; exact Put.au
      apply OL.nx
      apply W.reg
      apply omv; rfl; rfl
      apply omv; rfl; rfl
      apply ono; rfl; rfl; rfl; apply Pev.fld; rfl; exact yes; rfl
      apply ono; rfl; rfl; rfl; apply Pev.load_blk; rfl; exact fun h => h; exact .head _; rfl; rfl
      apply ono; rfl; rfl; rfl; apply Pev.move; rfl; exact yes
      apply ono; rfl; rfl; rfl; apply Pev.bin; rfl; exact fun h => h; rfl; exact fun h => h; intro hcond; apply Bin.eql
      apply ono; rfl; rfl; rfl; apply Pev.move; rfl; exact fun h => h
      apply OL.op; exact Guard.cyes rfl rfl; rfl; rfl; apply Pev.move; rfl; exact yes
      apply OL.op; exact Guard.cyes rfl rfl; rfl; rfl; apply Pev.move; rfl; exact yes
      apply OL.op; exact Guard.cyes rfl rfl; rfl; rfl; apply Pev.bin; rfl; exact fun h => h; rfl; exact fun h => h; intro hcond; apply Bin.neq
      apply OL.op; exact Guard.cyes rfl rfl; rfl; rfl; apply Pev.move; rfl; exact fun h => h
      apply OL.op; exact Guard.cno rfl rfl; rfl; rfl; apply Pev.move; rfl; exact yes
      apply OL.op; exact Guard.cno rfl rfl; rfl; rfl; apply Pev.move; rfl; exact yes
      apply OL.op; exact Guard.cno rfl rfl; rfl; rfl; apply Pev.bin; rfl; exact fun h => h; rfl; exact fun h => h; intro hcond; apply Bin.lss
      apply OL.op; exact Guard.cyes rfl rfl; rfl; rfl; apply Pev.pick_or; rfl; exact fun h => h; rfl; exact fun h => h
      apply OL.op; exact Guard.cyes rfl rfl; rfl; rfl; apply Pev.move; rfl; exact fun h => h
      apply OL.op; exact Guard.cno rfl rfl; rfl; rfl; apply Pev.move; rfl; exact yes
      apply OL.op; exact Guard.cno rfl rfl; rfl; rfl; apply Pev.move; rfl; exact yes
      apply OL.op; exact Guard.cno rfl rfl; rfl; rfl; apply Pev.idxB; rfl; exact fun h => h; rfl; exact fun h => h; rfl; intro hcond; omega; rfl
      apply OL.op; exact Guard.cno rfl rfl; rfl; rfl; apply Pev.load_kept; rfl; exact fun h => h; exact .head _; rfl; intro hcond; assumption; intro hcond; assumption; intro hcond; exact NotOwned.au
      apply OL.op; exact Guard.cno rfl rfl; rfl; rfl; apply Pev.not; rfl; exact fun h => h
      apply OL.op; exact Guard.cyes rfl rfl; rfl; rfl; apply Pev.pick_or; rfl; exact fun h => h; rfl; exact fun h => h
      apply ono; rfl; rfl; rfl; apply Pev.pick_and; rfl; exact fun h => h; rfl; exact fun h => h
      apply oop; rfl; apply Pev.pick_or; rfl; exact yes; rfl; exact fun h => h
      apply oas; rfl; rfl
      apply OL.nil
      with_reducible apply At.in_normal
      with_reducible apply At.next
      apply W.reg
      apply obn; rfl; rfl; rfl; apply Bin.add_in; omega
      apply omv; rfl; rfl
      apply OL.nil
      refine At.again (j + 1, (hh || decide (u.1.to_ = v) && (!decide ((n : Int) = (k : Int)) || decide ((j : Int) < (at_ : Int)) || !z))) ⟨by simp only; omega, ?_⟩ (by simp only; omega) (by exact Sub.au) (fun w' hw' => hw'.thin (by exact Thin.au))
      simp only [Bool.or_eq_true, Bool.and_eq_true, decide_eq_true_eq, Bool.not_eq_true', decide_eq_false_iff_not]
      constructor
      · rintro (h | ⟨h1, h2⟩)
        · obtain ⟨a', h3, h4, h5⟩ := hh0.1 h
          exact ⟨a', by omega, h4, h5⟩
        · refine ⟨j + 1, by omega, ⟨p.1, hbsn, .inr ⟨j, u.1, rfl, hui, h1⟩⟩, ?_⟩
          rcases h2 with (h2 | h2) | h2
          · exact .inl (by omega)
          · exact .inr (.inl (by omega))
          · exact .inr (.inr h2)
      · rintro ⟨a', h3, h4, h5⟩
        by_cases e : a' ≤ j
        · exact .inl (hh0.2 ⟨a', e, h4, h5⟩)
        · right
          obtain rfl : a' = j + 1 := by omega
          obtain ⟨x, hx, h6⟩ := h4
          rw [hbsn] at hx
          obtain rfl := Option.some.inj hx
          rcases h6 with ⟨h6, _⟩ | ⟨j', i, h6, h7, h8⟩
          · omega
          · obtain rfl : j = j' := by omega
            rw [hui] at h7
            obtain rfl := Option.some.inj h7
            refine ⟨h8, ?_⟩
            rcases h5 with h5 | h5 | h5
            · exact .inl (.inl (by omega))
            · exact .inl (.inr (by omega))
            · exact .inr h5
    · obtain rfl : j = pi.length := by omega
      refine W.xt ?_
      with_reducible apply At.next
      apply W.sr
      apply omv; rfl; rfl
      apply OL.nx
      cases hhv : hh with
      | true =>
        obtain ⟨a', h3, h4, h5⟩ := hh0.1 hhv
        refine W.cond rfl (fun h9 => ?_) (fun h9 => by cases h9)
        cases hzv : z with
        | false =>
          rw [hzv] at hbv
          apply W.sr
          apply omv; rfl; rfl
          apply omv; rfl; rfl
          apply oop; rfl; apply Pev.idxB; rfl; exact yes; rfl; exact yes; rfl; intro hcond; omega; rfl
          apply oop; rfl; apply Pev.load_kept; rfl; exact yes; exact .head _; rfl; intro hcond; assumption; intro hcond; assumption; intro hcond; exact NotOwned.au
          apply oop; rfl; apply Pev.not; rfl; exact yes
          apply omv; rfl; rfl
          apply ono; rfl; rfl; rfl; apply Pev.load_blkA; rfl; exact yes; exact .head _; rfl; exact Take.au
          apply ono; rfl; rfl; rfl; apply Pev.move; rfl; exact yes
          apply ono; rfl; rfl; rfl; apply Pev.move; rfl; exact yes
          apply OL.gateOff; exact Guard.no rfl rfl; rfl; rfl
          apply oop; rfl; apply Pev.pick_on; rfl; exact yes; (intro hcond; rfl); rfl; exact yes
          apply oas; rfl; rfl
          apply OL.nx
          refine W.rt ?_
          ((with_reducible apply At.fin1); rfl; rfl; intro w' hw')
          refine ⟨_, rfl, ⟨fun _ => ⟨n, a', h4, .inr (.inr fun hr => ?_)⟩, fun _ => by simp⟩, by (exact hw'.fr)⟩
          rw [hBk.2 hr] at hzv
          cases hzv
        | true =>
          rw [hzv] at hbv
          apply W.sr
          apply omv; rfl; rfl
          apply omv; rfl; rfl
          apply oop; rfl; apply Pev.idxB; rfl; exact yes; rfl; exact yes; rfl; intro hcond; omega; rfl
          apply oop; rfl; apply Pev.load_kept; rfl; exact yes; exact .head _; rfl; intro hcond; assumption; intro hcond; assumption; intro hcond; exact NotOwned.au
          apply oop; rfl; apply Pev.not; rfl; exact yes
          apply omv; rfl; rfl
          apply ono; rfl; rfl; rfl; apply Pev.load_blkA; rfl; exact yes; exact .head _; rfl; exact Take.au
          apply ono; rfl; rfl; rfl; apply Pev.move; rfl; exact yes
          apply ono; rfl; rfl; rfl; apply Pev.move; rfl; exact yes
          refine OL.callG (α := Bool) (fun r => .bool r) (fun r => r = true ↔ Ovr (graphB bs) n k) (fun _ => Cls [blk bF 24 [.int .i64 nm, .slice (some a) es.length cap]] [w]) Guard.au (by simp) rfl rfl (by exact Args.au) (fun w2 hw2 => (Over_calls es (some a) cap nm n k w2 ((hqa ▸ he : Arr bkR w (low w) es (some a)).at hw2 (by exact mau) (fun k hk => by exact NotOwned.au)) hlen hk).mono fun e w3 ⟨r, h6, h7, h8⟩ => ⟨r, h6, by rw [hbs] at h7; exact h7, hw2.ext h8⟩) ?_
          intro r hr
          apply oop; rfl; apply Pev.pick_or; rfl; exact yes; rfl; exact yes
          apply oas; rfl; rfl
          apply OL.nx
          refine W.rt ?_
          ((with_reducible apply At.fin1); rfl; rfl; intro w' hw')
          refine ⟨_, rfl, ?_, by (exact hw'.fr)⟩
          have hrc : Rc (graphB bs) (-1) k := hBk.1 hzv
          simp
          rw [hr]
          constructor
          · intro ho
            refine ⟨n, a', h4, ?_⟩
            by_cases e : n = k
            · rcases h5 with h5 | h5 | h5
              · exact absurd e h5
              · exact .inl ⟨e, h5⟩
              · rw [hzv] at h5; cases h5
            · exact .inr (.inl ⟨e, ho⟩)
          · rintro ⟨b', a'', h6, h7⟩
            obtain ⟨rfl, rfl⟩ := huniq _ _ _ _ h4 h6
            rcases h7 with h7 | h7 | h7
            · exact .inl h7.1
            · exact h7.2
            · exact absurd hrc h7
      | false =>
        refine W.cond rfl (fun h9 => by cases h9) (fun h9 => ?_)
        apply W.skip
        with_reducible apply At.in_normal
        with_reducible apply At.next
        apply W.reg
        apply obn; rfl; rfl; rfl; apply Bin.add_in; omega
        apply omv; rfl; rfl
        apply OL.nil
        refine At.again (n + 1) ⟨by omega, fun m a' hm hd hx => ?_⟩ (by omega) (by exact Sub.au) (fun w' hw' => hw')
        by_cases e : m = n
        · subst e
          have h6 : hh = true := hh0.2 ⟨a', ?_, hd, hx⟩
          · rw [hhv] at h6; cases h6
          · obtain ⟨x, hx2, h7⟩ := hd
            rw [hbsn] at hx2
            obtain rfl := Option.some.inj hx2
            rcases h7 with ⟨h7, _⟩ | ⟨j', i, h7, h8, _⟩
            · omega
            · have := (List.getElem?_eq_some_iff.1 h8).1
              omega
        · exact hn0 m a' (by omega) hd hx
  · obtain rfl : n = es.length := by omega
    refine W.xt ?_
    with_reducible apply At.next
    apply W.sr
    apply oas; rfl; rfl
    apply OL.nx
    apply W.ret
    ((with_reducible apply At.fin1); rfl; rfl; intro w' hw')
    refine ⟨false, rfl, ⟨fun h => (by cases h), ?_⟩, by (exact hw'.fr)⟩
    rintro ⟨b', a', h1, h2⟩
    exfalso
    refine hn0 b' a' ?_ h1 ?_
    · obtain ⟨x, hx, _⟩ := h1
      have := (List.getElem?_eq_some_iff.1 hx).1
      omega
    · rcases h2 with h2 | h2 | h2
      · exact .inr (.inl h2.2)
      · exact .inl h2.1
      · right; right
        cases hzv : z with
        | false => rfl
        | true => exact absurd (hBk.1 hzv) h2
end Go.Proofs.Ytehelljmaiophaa.ss

/- The walk of the reference's FuncErr. Conditions: none. -/
namespace Go.Eng
open Go.RowKit Go.Ss
theorem Cls.pileS {H : List Item} {S : List World} {w w' : World} {q : Option Addr} {c : Nat} {l : List Int} (h : Cls H S w) (he : Ext w w') (hI : IntsO w' (fresh w w') l q) : Cls (pile w.heap.size (fun k => k < w'.heap.size) [⟨q, c, ints l⟩] :: H) S w' :=
  h.add he _ (fun s hs hl => by
    obtain rfl := List.mem_singleton.1 hs
    simp only [ints_length] at hl
    obtain ⟨a, h1, h2, h3⟩ := hI hl
    exact ⟨a, h1, h2, h3⟩) (fun k hk => hk)
end Go.Eng
namespace Go.Ss
open Go.Eng Go.RowKit
theorem params_lim {bs : List Bk} (h : shapeE bs = 0) {k : Nat} {b : Bk} (hb : bs[k]? = some b) : b.params.length ≤ 4096 := by
  obtain ⟨h1, _, _⟩ := block_zero (shape_block h hb)
  have hz : ∀ (j : Nat) v, b.params[j]? = some v → defE v (defsF (bs.take k) ++ b.params.take j) = 0 := fun j v hv => by
    have h4 := firstR_zero.1 h1 j (List.getElem?_eq_some_iff.1 hv).1
    rwa [paramE_at hv] at h4
  refine Lim4.len ⟨?_, fun v hv => ?_⟩
  · have := nodup_more (seen := []) (ps := b.params) (fun j v hv hm => (def_zero (hz j v hv)).2.2 (List.mem_append_right _ (by simpa using hm))) List.nodup_nil
    simpa using this
  · obtain ⟨j, hj⟩ := List.getElem?_of_mem hv
    have := def_zero (hz j v hj)
    exact ⟨this.1, this.2.1⟩
theorem flat_bound {n : Nat} : ∀ {l : List Ed}, (∀ e ∈ l, e.args.length ≤ n) → (l.flatMap Ed.args).length ≤ l.length * n
  | [], _ => by simp
  | e :: l, h => by
    have h1 := h e (.head _)
    have h2 := flat_bound fun x hx => h x (.tail _ hx)
    simp only [List.flatMap_cons, List.length_append, List.length_cons, Nat.succ_mul]
    omega
theorem shape_to {t : Tm} (h : shapeT t = true) (hc : t.cases.length ≤ 256) : t.to_.length ≤ 257 := by
  unfold shapeT at h
  split at h
  · simp [-List.length_eq_zero_iff] at h; omega
  · split at h
    · simp [-List.length_eq_zero_iff] at h; omega
    · split at h
      · simp [-List.length_eq_zero_iff] at h; omega
      · split at h
        · simp [-List.length_eq_zero_iff] at h; omega
        · split at h
          · simp [-List.length_eq_zero_iff] at h; omega
          · cases h
theorem oper_len {bs : List Bk} (h : shapeE bs = 0) {k : Nat} {b : Bk} (hb : bs[k]? = some b) : (operT b.term).length ≤ 1000000000 := by
  obtain ⟨h1, h2, _, _, h3⟩ := term_zero (block_zero (shape_block h hb)).2.2
  have h4 := shape_to h1 h2
  have h5 : (b.term.to_.flatMap Ed.args).length ≤ b.term.to_.length * 4096 := flat_bound fun e he => by
    obtain ⟨h6, h7, h8⟩ := edge_zero (h3 e he)
    have h9 : bs[e.block.toNat]? = some (bs.getD e.block.toNat noB) := by
      rw [List.getD_eq_getElem?_getD, List.getElem?_eq_getElem (by omega)]; rfl
    rw [h8]
    exact params_lim h h9
  unfold operT
  rw [List.length_append]
  have : (if b.term.kind = 0 ∨ b.term.kind = 2 ∨ b.term.kind = 3 then [b.term.arg] else []).length ≤ 1 := by split <;> simp
  omega
end Go.Ss
namespace Go.Proofs.Ytehelljmaiophaa.ss
set_option maxRecDepth 100000
open Go.Eng Go.RowKit Go.Ss
theorem FuncErr_calls (fn : Go.Ss.Fn) (y : FnY) (w : World) (hfn : FnOk w (low w) fn y) :
    Calls Try.prog 14 [.agg (fnC fn y).toArray].toArray w fun e w' => e = .returned (.int .i64 (funcE fn)) ∧ Ext w w' := by
  obtain ⟨es, hes, he⟩ := hfn.b
  obtain ⟨nm, bs⟩ := fn
  obtain ⟨q, cap⟩ := y
  have hbl := hfn.bl
  simp only at hes he hbl
  have hbl2 : bs.length = es.length := by rw [← hes, List.length_map]
  refine enter Try.func14 rfl Try.ntmps14 rfl (Cls.start w) ?_
  (simp only [argEnv, Nat.zero_add, Nat.reduceAdd])
  simp only [fnC]
  rw [hbl2]
  apply W.sr
  apply OL.box; rfl; rfl; exact CellsL.agg; (intro bk hbk; simp only [AllLe, and_true] at hbk)
  apply oas; rfl; rfl
  apply OL.nsr
  apply oas; rfl; rfl
  apply OL.nx
  apply W.seq
  apply W.sr
  apply ofa; rfl; rfl; rfl
  apply old; rfl; rfl; exact .head _; rfl; rfl
  apply oop; rfl; apply Pev.len_slice; rfl; exact yes; rfl
  apply omv; rfl; rfl
  apply OL.nx
  apply W.block
  revert bk
  intro bF hbF
  have hbF1 : w.heap.size ≤ bF := by first | exact hbF | exact hbF.1
  refine W.loop (G := Nat × Int) (fun z => z.1 ≤ es.length ∧ (es.length ≤ 128 → z.2 = (insAll (bs.take z.1) : Int)) ∧ insAll (bs.take z.1) ≤ z.1 * 140737488355328) (fun z => es.length - z.1)
    (fun z => [(1, true, .pointer (some ⟨bF, 0, none⟩)), (3, true, .int .i64 z.2), (17, true, .slice q es.length cap), (18, true, .int .i64 (es.length : Int)), (19, true, .int .i64 (z.1 : Int))])
    (fun _ => Cls [blk bF 24 [.int .i64 nm, .slice q es.length cap]] [w]) (0, 0) ⟨by simp, fun _ => by simp [insAll], by simp [insAll]⟩ (by exact Sub.au) (fun w' hw' => hw') ?_
  rintro ⟨k, z⟩ ⟨hk, hz, hz2⟩
  simp only at hk hz hz2 ⊢
  apply W.sr
  apply obn; rfl; rfl; rfl; apply Bin.lss
  apply OL.nx
  apply W.seq
  (refine W.cnd (fun hlt => ?_) (fun hlt => ?_)) <;> (try (exfalso; first | omega | exact hlt trivial | contradiction))
  · have hkl : k < es.length := by omega
    obtain ⟨a, p, hqa, hab, hp, hcell, hok⟩ := he.get hkl
    have hab : a.block < w.heap.size := hab
    have hcell : CellsAt w (a.add (k * 7)) [.slice p.2.p.1 p.1.params.length p.2.p.2, .slice p.2.i.1 p.1.ins.length p.2.i.2, .int .i64 p.1.term.kind, .int .i64 p.1.term.arg, .int .i64 p.1.term.n, .slice p.2.t.c.1 p.1.term.cases.length p.2.t.c.2, .slice p.2.t.t.1 p.1.term.to_.length p.2.t.t.2] := hcell
    have hbsk : bs[k]? = some p.1 := by rw [← hes, List.getElem?_map, hp]; rfl
    have hil := hok.il
    have hins : insAll (bs.take (k + 1)) = insAll (bs.take k) + p.1.ins.length := by
      unfold insAll
      rw [List.take_add_one, hbsk]
      simp
    rw [hqa]
    apply W.sk
    apply W.sb
    apply W.sr
    apply oop; rfl; apply Pev.idx; rfl; exact yes; rfl; exact yes; rfl; rfl; intro hcond; omega
    apply oop; rfl; apply Pev.load_keptA; rfl; exact yes; exact .head _; rfl; intro hcond; assumption; rfl; intro hcond; (rw [add_block]; assumption); intro hcond; exact NotOwned.au
    apply OL.alloc; rfl; rfl; exact CellsL.agg; (intro bk hbk; simp only [AllLe, and_true] at hbk)
    apply OL.storeB; rfl; rfl; exact CellsL.agg; rfl; rfl; rfl; exact Swap.au; exact Put.au
    apply OL.nx
    apply W.reg
    apply omv; rfl; rfl
    apply ofa; rfl; rfl; rfl
    apply old; rfl; rfl; exact .head _; rfl; rfl
    apply oop; rfl; apply Pev.len_slice; rfl; exact yes; rfl
    apply obn; rfl; rfl; rfl; apply Bin.add
    apply oas; rfl; rfl
    apply OL.nil
    with_reducible apply At.in_normal
    with_reducible apply At.next
    apply W.reg
    apply obn; rfl; rfl; rfl; apply Bin.add_in; omega
    apply omv; rfl; rfl
    apply OL.nil
    have hle : es.length ≤ 128 → IntKind.i64.wrap (z + (p.1.ins.length : Int)) = ((insAll (bs.take (k + 1)) : Nat) : Int) := fun h => by
      have h1 := hz h
      rw [IntWalk.i64_in _ (by rw [h1]; omega), h1, hins]
      omega
    refine At.again (k + 1, IntKind.i64.wrap (z + (p.1.ins.length : Int))) ⟨by simp only; omega, hle, by rw [hins]; simp only; omega⟩ (by simp only; omega) (by exact Sub.au) (fun w' hw' => hw'.thin (by exact Thin.au))
  obtain rfl : k = es.length := by omega
  rw [← hbl2, List.take_length] at hz hz2
  refine W.xt ?_
  with_reducible apply At.next
  apply W.seq
  apply W.sr
  apply ofa; rfl; rfl; rfl
  apply old; rfl; rfl; exact .head _; rfl; rfl
  apply oop; rfl; apply Pev.len_slice; rfl; exact yes; rfl
  apply obn; rfl; rfl; rfl; apply Bin.eql
  apply OL.nx
  (refine W.cnd (fun h1 => ?_) (fun h1 => ?_)) <;> (try (exfalso; first | omega | exact h1 trivial | contradiction))
  · have hF : funcE ⟨nm, bs⟩ = 3 := by
      unfold funcE
      rw [if_pos (by simp only; omega)]
    apply W.sr
    apply oas; rfl; rfl
    apply OL.nx
    refine W.rt ?_
    ((with_reducible apply At.fin1); rfl; rfl; intro w' hw')
    rw [hF]
    exact ⟨rfl, by (exact hw'.fr)⟩
  obtain ⟨a, p, hqa, hab, hp, hcell, hok⟩ := he.get (show 0 < es.length by omega)
  have hab : a.block < w.heap.size := hab
  have hcell : CellsAt w (a.add (0 * 7)) [.slice p.2.p.1 p.1.params.length p.2.p.2, .slice p.2.i.1 p.1.ins.length p.2.i.2, .int .i64 p.1.term.kind, .int .i64 p.1.term.arg, .int .i64 p.1.term.n, .slice p.2.t.c.1 p.1.term.cases.length p.2.t.c.2, .slice p.2.t.t.1 p.1.term.to_.length p.2.t.t.2] := hcell
  have hg0 : bs.getD 0 noB = p.1 := by rw [List.getD_eq_getElem?_getD, ← hes, List.getElem?_map, hp]; rfl
  have hqe : q = some a := hqa
  rw [hqa]
  apply W.sk
  apply W.seq
  apply W.sr
  apply ofa; rfl; rfl; rfl
  apply old; rfl; rfl; exact .head _; rfl; rfl
  apply oop; rfl; apply Pev.len_slice; rfl; exact yes; rfl
  apply obn; rfl; rfl; rfl; apply Bin.gtr
  apply omv; rfl; rfl
  apply ono; rfl; rfl; rfl; apply Pev.move; rfl; exact yes
  apply ono; rfl; rfl; rfl; apply Pev.bin; rfl; exact fun h => h; rfl; exact yes; intro hcond; apply Bin.gtr
  apply oop; rfl; apply Pev.pick_or; rfl; exact yes; rfl; exact fun h => h
  apply omv; rfl; rfl
  apply ono; rfl; rfl; rfl; apply Pev.fld; rfl; exact yes; rfl
  apply ono; rfl; rfl; rfl; apply Pev.load_blk; rfl; exact fun h => h; exact .head _; rfl; rfl
  apply ono; rfl; rfl; rfl; apply Pev.idx; rfl; exact fun h => h; rfl; exact yes; rfl; rfl; intro hcond; (simp only [Bool.and_eq_true, Bool.or_eq_true, Bool.not_eq_true', decide_eq_true_eq, decide_eq_false_iff_not] at *; omega)
  apply ono; rfl; rfl; rfl; apply Pev.fldA; rfl; exact fun h => h; rfl
  apply ono; rfl; rfl; rfl; apply Pev.load_kept; rfl; exact fun h => h; exact .head _; rfl; intro hcond; apply CellsAt.at_ (by assumption) rfl; intro hcond; assumption; intro hcond; exact NotOwned.au
  apply ono; rfl; rfl; rfl; apply Pev.len_slice; rfl; exact fun h => h; rfl
  apply ono; rfl; rfl; rfl; apply Pev.bin; rfl; exact fun h => h; rfl; exact yes; intro hcond; apply Bin.gtr
  apply oop; rfl; apply Pev.pick_or; rfl; exact yes; rfl; exact fun h => h
  apply OL.nx
  refine W.cond rfl (fun h2 => ?_) (fun h2 => ?_)
  · have hF : funcE ⟨nm, bs⟩ = 2 := by
      unfold funcE
      rw [if_neg (by simp only; omega), if_pos ?_]
      simp only
      rw [hg0]
      simp at h2
      by_cases h3 : 128 < es.length
      · exact .inl (by omega)
      · have := hz (by omega)
        right
        rcases h2 with (h2 | h2) | h2
        · omega
        · left; omega
        · right; omega
    apply W.sr
    apply oas; rfl; rfl
    apply OL.nx
    refine W.rt ?_
    ((with_reducible apply At.fin1); rfl; rfl; intro w' hw')
    rw [hF]
    exact ⟨rfl, by (exact hw'.fr)⟩
  have h3 : es.length ≤ 128 := by simp at h2; omega
  have h2' : ¬ (128 < bs.length ∨ 1024 < insAll bs ∨ 6 < (bs.getD 0 noB).params.length) := by
    have := hz (by omega)
    rw [hg0]
    simp at h2
    omega
  apply W.sk
  apply W.seq
  apply W.sr
  apply ofa; rfl; rfl; rfl
  apply old; rfl; rfl; exact .head _; rfl; rfl
  (((first | (with_reducible apply OL.op) | (with_reducible apply QL.op)); (exact Guard.au); rfl; rfl); (exact Pev.call (v := .bool (decide (-1 ≤ nm) && decide (nm ≤ 1048575))) rfl (by exact Args.au) (fun _ w2 hw2 => (Within_calls nm (-1) 1048575 w2).mono (fun e w3 h => ⟨h.1, hw2.ext h.2⟩))))
  apply oop; rfl; apply Pev.not; rfl; exact yes
  apply OL.nx
  refine W.cond rfl (fun h4 => ?_) (fun h4 => ?_)
  · have hF : funcE ⟨nm, bs⟩ = 4 := by
      unfold funcE
      rw [if_neg (by simp only; omega), if_neg h2', if_pos (by simp at h4; simp only; omega)]
    apply W.sr
    apply oas; rfl; rfl
    apply OL.nx
    refine W.rt ?_
    ((with_reducible apply At.fin1); rfl; rfl; intro w' hw')
    rw [hF]
    exact ⟨rfl, by (exact hw'.fr)⟩
  have hF : (¬ shapeE bs = 0 → funcE ⟨nm, bs⟩ = shapeE bs) ∧ (shapeE bs = 0 → ∀ r : Int, (r = 0 ∨ r = 6) → (r = 0 ↔ ∀ (k : Nat) b, bs[k]? = some b → UsesB bs k b) → r = funcE ⟨nm, bs⟩) := by
    constructor
    · intro h5
      unfold funcE
      rw [if_neg (by simp only; omega), if_neg h2', if_neg (by simp at h4; simp only; omega), if_pos h5]
    · intro h5 r hr hi
      unfold funcE
      rw [if_neg (by simp only; omega), if_neg h2', if_neg (by simp at h4; simp only; omega), if_neg (fun h => h h5)]
      split
      · rename_i h6; exact hi.2 h6
      · rename_i h6
        rcases hr with hr | hr
        · exact absurd (hi.1 hr) h6
        · exact hr
  rw [hqe] at he
  have hbad : ∀ (k : Nat) b, bs[k]? = some b → ¬ UsesB bs k b → shapeE bs = 0 → (6 : Int) = funcE ⟨nm, bs⟩ := fun k b hb hn h5 => hF.2 h5 6 (.inr rfl) ⟨fun h => by omega, fun h => absurd (h k b hb) hn⟩
  apply W.sk
  apply W.seq
  apply W.sr
  apply oop; rfl; apply Pev.load_blkA; rfl; exact yes; exact .head _; rfl; exact Take.au
  (((first | (with_reducible apply OL.op) | (with_reducible apply QL.op)); (exact Guard.au); rfl; rfl); (exact Pev.call (v := .int .i64 (shapeE bs)) rfl (by exact Args.au) (fun _ w2 hw2 => (shapeErr_calls es (some a) cap nm w2 (he.at hw2 (by exact mau) (fun k hk => by exact NotOwned.au)) (by omega)).mono (fun e w3 h => ⟨by rw [h.1, hes], hw2.ext h.2⟩))))
  apply oas; rfl; rfl
  apply OL.nsr
  apply omv; rfl; rfl
  apply obn; rfl; rfl; rfl; apply Bin.neq
  apply OL.nx
  (refine W.cnd (fun hne => ?_) (fun hne => ?_)) <;> (try (exfalso; first | omega | exact hne trivial | contradiction))
  · rw [hF.1 hne]
    apply W.sr
    apply omv; rfl; rfl
    apply oas; rfl; rfl
    apply OL.nx
    refine W.rt ?_
    ((with_reducible apply At.fin1); rfl; rfl; intro w' hw')
    exact ⟨rfl, by (exact hw'.fr)⟩
  have hs0 : shapeE bs = 0 := by simpa using hne
  apply W.sk
  apply W.sr
  apply oop; rfl; apply Pev.load_blkA; rfl; exact yes; exact .head _; rfl; exact Take.au
  refine OL.callE (α := Nat × List Bool) (fun z => .slice (some ⟨z.1, 0, none⟩) es.length es.length) (fun z => w.heap.size ≤ z.1 ∧ z.2.length = es.length ∧ ∀ k : Nat, z.2[k]? = some true ↔ Rc (graphB bs) (-1) k) (fun z => Cls (blk z.1 4 (bls z.2) :: [blk bF 24 [.int .i64 nm, .slice (some a) es.length cap]]) [w]) rfl rfl (by exact Args.au) (fun w2 hw2 => (Reach_calls es (some a) cap nm (-1) w2 (he.at hw2 (by exact mau) (fun k hk => by exact NotOwned.au)) (by omega)).mono fun e w3 ⟨bR, B, h1, h2, h3, h4, h5, h6⟩ => ⟨(bR, B), h1, ⟨Nat.le_trans (hw2.kp w (by exact mau)).size h5, h2, by rw [hes] at h3; exact h3⟩, hw2.add h4 _ h6 (fun k hk => by rw [show k = bR from hk]; exact ⟨h5, blk_lt h6⟩)⟩) ?_
  rintro ⟨bR, B⟩ ⟨hbR, hBl, hB⟩
  simp only at hbR hBl hB ⊢
  have hU : ∀ (v : Int) (k at_ : Nat) (hk : k < es.length) (H : List Eng.Item) (S : List World) (w2 : World) (hw2 : Cls H S w2) (hwS : w ∈ S) (hno : ∀ k, k < w.heap.size → NotOwned H k) (hmem : blk bR 4 (bls B) ∈ H), Calls Try.prog 58 [.agg #[.int .i64 nm, .slice (some a) es.length cap], .int .i64 v, .int .i64 (k : Int), .int .i64 (at_ : Int), .slice (some ⟨bR, 0, none⟩) es.length es.length].toArray w2 fun e w' => ∃ r : Bool, e = .returned (.bool r) ∧ (r = true ↔ Fine bs v k at_) ∧ Cls H S w' := fun v k at_ hk H S w2 hw2 hwS hno hmem => (usable_calls es (some a) cap nm v k at_ bR B w2 (he.at hw2 hwS hno) (by omega) hk (by rw [hes]; exact hs0) hBl (by rw [hes]; exact hB k) (hw2.item hmem)).mono fun e w3 ⟨r, h1, h2, h3⟩ => ⟨r, h1, by rw [hes] at h2; exact h2, hw2.ext h3⟩
  apply oas; rfl; rfl
  apply OL.nx
  apply W.seq
  apply W.sr
  apply ofa; rfl; rfl; rfl
  apply old; rfl; rfl; exact .tail _ (.head _); rfl; rfl
  apply oop; rfl; apply Pev.len_slice; rfl; exact yes; rfl
  apply omv; rfl; rfl
  apply OL.nx
  apply W.block
  refine W.loop (G := Nat) (fun k => k ≤ es.length ∧ ∀ (k' : Nat) b, k' < k → bs[k']? = some b → UsesB bs k' b) (fun k => es.length - k)
    (fun k => [(1, true, .pointer (some ⟨bF, 0, none⟩)), (7, true, .slice (some ⟨bR, 0, none⟩) es.length es.length), (62, true, .slice (some a) es.length cap), (63, true, .int .i64 (es.length : Int)), (64, true, .int .i64 (k : Int))]) (fun k => Cls [blk bR 4 (bls B), blk bF 24 [.int .i64 nm, .slice (some a) es.length cap]] [w]) 0 ⟨by omega, fun k' b h => by omega⟩ (by exact Sub.au) (fun w' hw' => hw') ?_
  rintro k ⟨hk, hk0⟩
  apply W.sr
  apply obn; rfl; rfl; rfl; apply Bin.lss
  apply OL.nx
  apply W.seq
  (refine W.cnd (fun hltk => ?_) (fun hltk => ?_)) <;> (try (exfalso; first | omega | exact hltk trivial | contradiction))
  · have hkl : k < es.length := by omega
    obtain ⟨a2, p, hqa2, hab2, hp, hcell2, hok⟩ := he.get hkl
    obtain rfl := Option.some.inj hqa2
    have hab2 : a.block < w.heap.size := hab2
    have hcell2 : CellsAt w (a.add (k * 7)) [.slice p.2.p.1 p.1.params.length p.2.p.2, .slice p.2.i.1 p.1.ins.length p.2.i.2, .int .i64 p.1.term.kind, .int .i64 p.1.term.arg, .int .i64 p.1.term.n, .slice p.2.t.c.1 p.1.term.cases.length p.2.t.c.2, .slice p.2.t.t.1 p.1.term.to_.length p.2.t.t.2] := hcell2
    have hbsk : bs[k]? = some p.1 := by rw [← hes, List.getElem?_map, hp]; rfl
    have hil := hok.il
    obtain ⟨pi, hpi, hiarr⟩ := hok.i
    have hpil : p.1.ins.length = pi.length := by rw [← hpi, List.length_map]
    have hop := oper_len hs0 hbsk
    apply W.sk
    apply W.sb
    apply W.sr
    apply omv; rfl; rfl
    apply oop; rfl; apply Pev.idx; rfl; exact yes; rfl; exact yes; rfl; rfl; intro hcond; omega
    apply oop; rfl; apply Pev.load_keptA; rfl; exact yes; exact .head _; rfl; intro hcond; assumption; rfl; intro hcond; (rw [add_block]; assumption); intro hcond; exact NotOwned.au
    apply OL.alloc; rfl; rfl; exact CellsL.agg; (intro bk hbk; simp only [AllLe, and_true] at hbk)
    apply oas; rfl; rfl
    apply OL.storeB; rfl; rfl; exact CellsL.agg; rfl; rfl; rfl; exact Swap.au; exact Put.au
    apply OL.nx
    apply W.seq
    apply W.sr
    apply ofa; rfl; rfl; rfl
    apply old; rfl; rfl; exact .head _; rfl; rfl
    apply oop; rfl; apply Pev.len_slice; rfl; exact yes; rfl
    apply omv; rfl; rfl
    apply OL.nx
    apply W.block
    revert bk
    intro b9 hb9
    have hb91 : w.heap.size ≤ b9 := by first | exact hb9 | exact hb9.1
    refine W.loop (G := Nat) (fun n => n ≤ p.1.ins.length ∧ ∀ (n' : Nat) i, n' < n → p.1.ins[n']? = some i → ∀ v ∈ i.args, Fine bs v k n') (fun n => p.1.ins.length - n)
      (fun n => [(1, true, .pointer (some ⟨bF, 0, none⟩)), (7, true, .slice (some ⟨bR, 0, none⟩) es.length es.length), (8, true, .int .i64 (k : Int)), (9, true, .pointer (some ⟨b9, 0, none⟩)), (62, true, .slice (some a) es.length cap), (63, true, .int .i64 (es.length : Int)), (64, true, .int .i64 (k : Int)), (70, true, .slice p.2.i.1 p.1.ins.length p.2.i.2), (71, true, .int .i64 (p.1.ins.length : Int)), (72, true, .int .i64 (n : Int))]) (fun n => Cls [blk b9 41 [.slice p.2.p.1 p.1.params.length p.2.p.2, .slice p.2.i.1 p.1.ins.length p.2.i.2, .int .i64 p.1.term.kind, .int .i64 p.1.term.arg, .int .i64 p.1.term.n, .slice p.2.t.c.1 p.1.term.cases.length p.2.t.c.2, .slice p.2.t.t.1 p.1.term.to_.length p.2.t.t.2], blk bR 4 (bls B), blk bF 24 [.int .i64 nm, .slice (some a) es.length cap]] [w]) 0 ⟨by omega, fun n' i h => by omega⟩ (by exact Sub.au) (fun w' hw' => hw') ?_
    rintro n ⟨hn, hn0⟩
    apply W.sr
    apply obn; rfl; rfl; rfl; apply Bin.lss
    apply OL.nx
    apply W.seq
    (refine W.cnd (fun hltn => ?_) (fun hltn => ?_)) <;> (try (exfalso; first | omega | exact hltn trivial | contradiction))
    · have hnl : n < p.1.ins.length := by omega
      obtain ⟨ai, u, hqi, haib, hu, hcu, hoku⟩ := hiarr.get (show n < pi.length by omega)
      have haib : ai.block < w.heap.size := haib
      have hcu : CellsAt w (ai.add (n * 4)) [.int .i64 u.1.to_, .int .i64 u.1.op, .int .i64 u.1.n, .slice u.2.1 u.1.args.length u.2.2] := hcu
      have hui : p.1.ins[n]? = some u.1 := by rw [← hpi, List.getElem?_map, hu]; rfl
      have hual := hoku.al
      rw [hqi]
      apply W.sk
      apply W.sb
      apply W.sr
      apply omv; rfl; rfl
      apply oop; rfl; apply Pev.idx; rfl; exact yes; rfl; exact yes; rfl; rfl; intro hcond; omega
      apply oop; rfl; apply Pev.load_keptA; rfl; exact yes; exact .head _; rfl; intro hcond; assumption; rfl; intro hcond; (rw [add_block]; assumption); intro hcond; exact NotOwned.au
      apply OL.alloc; rfl; rfl; exact CellsL.agg; (intro bk hbk; simp only [AllLe, and_true] at hbk)
      apply oas; rfl; rfl
      apply OL.storeB; rfl; rfl; exact CellsL.agg; rfl; rfl; rfl; exact Swap.au; exact Put.au
      apply OL.nsr
      apply ofa; rfl; rfl; rfl
      apply old; rfl; rfl; exact .head _; rfl; rfl
      apply oop; rfl; apply Pev.len_slice; rfl; exact yes; rfl
      apply omv; rfl; rfl
      apply OL.nx
      apply W.block
      revert bk
      intro b11 hb11
      have hb111 : w.heap.size ≤ b11 := by first | exact hb11 | exact hb11.1
      refine W.loop (G := Nat) (fun i => i ≤ u.1.args.length ∧ ∀ (m : Nat) v, m < i → u.1.args[m]? = some v → Fine bs v k n) (fun i => u.1.args.length - i)
        (fun i => [(1, true, .pointer (some ⟨bF, 0, none⟩)), (7, true, .slice (some ⟨bR, 0, none⟩) es.length es.length), (8, true, .int .i64 (k : Int)), (9, true, .pointer (some ⟨b9, 0, none⟩)), (10, true, .int .i64 (n : Int)), (62, true, .slice (some a) es.length cap), (63, true, .int .i64 (es.length : Int)), (64, true, .int .i64 (k : Int)), (70, true, .slice (some ai) p.1.ins.length p.2.i.2), (71, true, .int .i64 (p.1.ins.length : Int)), (72, true, .int .i64 (n : Int)), (78, true, .slice u.2.1 u.1.args.length u.2.2), (79, true, .int .i64 (u.1.args.length : Int)), (80, true, .int .i64 (i : Int))]) (fun i => Cls [blk b9 41 [.slice p.2.p.1 p.1.params.length p.2.p.2, .slice (some ai) p.1.ins.length p.2.i.2, .int .i64 p.1.term.kind, .int .i64 p.1.term.arg, .int .i64 p.1.term.n, .slice p.2.t.c.1 p.1.term.cases.length p.2.t.c.2, .slice p.2.t.t.1 p.1.term.to_.length p.2.t.t.2], blk bR 4 (bls B), blk bF 24 [.int .i64 nm, .slice (some a) es.length cap]] [w]) 0 ⟨by omega, fun m v h => by omega⟩ (by exact Sub.au) (fun w' hw' => hw'.thin (.any (fun k hk => by rw [show k = b11 from hk]; exact ⟨hb111, trivial⟩) Thin.same)) ?_
      rintro i ⟨hi, hi0⟩
      apply W.sr
      apply obn; rfl; rfl; rfl; apply Bin.lss
      apply OL.nx
      apply W.seq
      (refine W.cnd (fun hlti => ?_) (fun hlti => ?_)) <;> (try (exfalso; first | omega | exact hlti trivial | contradiction))
      · have hil2 : i < u.1.args.length := by omega
        obtain ⟨av, v, hqv, habv, hv, hcv⟩ := hoku.a.get hil2
        have habv : av.block < w.heap.size := habv
        rw [hqv]
        apply W.sk
        apply W.sb
        apply W.sr
        apply oop; rfl; apply Pev.idx; rfl; exact yes; rfl; exact yes; rfl; rfl; intro hcond; omega
        apply oop; rfl; apply Pev.load_kept; rfl; exact yes; exact .head _; rfl; intro hcond; assumption; intro hcond; (rw [add_block]; assumption); intro hcond; exact NotOwned.au
        apply oas; rfl; rfl
        apply OL.nsr
        apply oop; rfl; apply Pev.load_blkA; rfl; exact yes; exact .tail _ (.tail _ (.head _)); rfl; exact Take.au
        apply omv; rfl; rfl
        apply omv; rfl; rfl
        apply omv; rfl; rfl
        apply omv; rfl; rfl
        refine OL.callE (α := Bool) (fun r => .bool r) (fun r => r = true ↔ Fine bs v k n) (fun _ => Cls [blk b9 41 [.slice p.2.p.1 p.1.params.length p.2.p.2, .slice (some ai) p.1.ins.length p.2.i.2, .int .i64 p.1.term.kind, .int .i64 p.1.term.arg, .int .i64 p.1.term.n, .slice p.2.t.c.1 p.1.term.cases.length p.2.t.c.2, .slice p.2.t.t.1 p.1.term.to_.length p.2.t.t.2], blk bR 4 (bls B), blk bF 24 [.int .i64 nm, .slice (some a) es.length cap]] [w]) rfl rfl (by exact Args.au) (fun w2 hw2 => hU v k n hkl _ _ w2 hw2 (.head _) (fun k hk => by exact NotOwned.au) (by exact mau)) ?_
        intro r hr
        apply oop; rfl; apply Pev.not; rfl; exact yes
        apply OL.nx
        refine W.cond rfl (fun h3 => ?_) (fun h3 => ?_)
        · have hnf : ¬ Fine bs v k n := fun h => by rw [hr.2 h] at h3; cases h3
          have h6 := hbad k p.1 hbsk (fun h => hnf (h.1 n u.1 hui v (List.mem_of_getElem? hv))) hs0
          apply W.sr
          apply oas; rfl; rfl
          apply OL.nx
          refine W.rt ?_
          ((with_reducible apply At.fin1); rfl; rfl; intro w' hw')
          exact ⟨by rw [h6], (hw'.thin (.any (fun k hk => by rw [show k = b9 from hk]; exact ⟨hb91, trivial⟩) (.any (fun k hk => by rw [show k = bR from hk]; exact ⟨hbR, trivial⟩) (.any (fun k hk => by rw [show k = bF from hk]; exact ⟨hbF1, trivial⟩) Thin.same)))).fr (by exact mau) (fun k hk => NotOwned.nil)⟩
        · have hfv : Fine bs v k n := hr.1 (by simpa using h3)
          apply W.skip
          with_reducible apply At.in_normal
          with_reducible apply At.next
          apply W.reg
          apply obn; rfl; rfl; rfl; apply Bin.add_in; omega
          apply omv; rfl; rfl
          apply OL.nil
          refine At.again (i + 1) ⟨by omega, fun m v' hm hv' => ?_⟩ (by omega) (by exact Sub.au) (fun w' hw' => hw')
          by_cases em : m = i
          · subst em
            rw [hv] at hv'
            obtain rfl := Option.some.inj hv'
            exact hfv
          · exact hi0 m v' (by omega) hv'
      · obtain rfl : i = u.1.args.length := by omega
        refine W.xt ?_
        with_reducible apply At.in_normal
        with_reducible apply At.next
        apply W.reg
        apply obn; rfl; rfl; rfl; apply Bin.add_in; omega
        apply omv; rfl; rfl
        apply OL.nil
        refine At.again (n + 1) ⟨by omega, fun m i' hm hi' v hv => ?_⟩ (by omega) (by exact Sub.au) (fun w' hw' => hw')
        by_cases em : m = n
        · subst em
          rw [hui] at hi'
          obtain rfl := Option.some.inj hi'
          obtain ⟨m2, hm2⟩ := List.getElem?_of_mem hv
          exact hi0 m2 v (List.getElem?_eq_some_iff.1 hm2).1 hm2
        · exact hn0 m i' (by omega) hi' v hv
    · obtain rfl : n = p.1.ins.length := by omega
      refine W.xt ?_
      with_reducible apply At.next
      apply W.sr
      apply ofa; rfl; rfl; rfl
      apply oop; rfl; apply Pev.load_blkA; rfl; exact yes; exact .head _; rfl; exact Take.au
      refine OL.callE (α := Option Addr × Nat × Nat × Nat) (fun z => .slice z.1 (operT p.1.term).length z.2.1) (fun z => w.heap.size ≤ z.2.2.1 ∧ (0 < (operT p.1.term).length → ∃ qa, z.1 = some qa)) (fun z => Cls [pile z.2.2.1 (fun k => k < z.2.2.2) [⟨z.1, z.2.1, ints (operT p.1.term)⟩], blk b9 41 [.slice p.2.p.1 p.1.params.length p.2.p.2, .slice p.2.i.1 p.1.ins.length p.2.i.2, .int .i64 p.1.term.kind, .int .i64 p.1.term.arg, .int .i64 p.1.term.n, .slice p.2.t.c.1 p.1.term.cases.length p.2.t.c.2, .slice p.2.t.t.1 p.1.term.to_.length p.2.t.t.2], blk bR 4 (bls B), blk bF 24 [.int .i64 nm, .slice (some a) es.length cap]] [w]) rfl rfl (by exact Args.au) (fun w2 hw2 => (Operands_calls p.1.term p.2.t w2 (TmOk.at hok.t hw2 (by exact mau) (fun k hk => by exact NotOwned.au)) hop).mono fun e w3 ⟨qo, co, h1, h2, h3⟩ => ⟨(qo, co, w2.heap.size, w3.heap.size), h1, ⟨(hw2.kp w (by exact mau)).size, fun h => (h3 h).imp fun qa hq => hq.1⟩, hw2.pileS h2 h3⟩) ?_
      rintro ⟨qo, co, pB, pT⟩ ⟨hpB, hqo⟩
      simp only at hpB hqo ⊢
      apply oop; rfl; apply Pev.len_slice; rfl; exact yes; rfl
      apply omv; rfl; rfl
      apply OL.nx
      apply W.block
      refine W.loop (G := Nat) (fun i => i ≤ (operT p.1.term).length ∧ ∀ (m : Nat) v, m < i → (operT p.1.term)[m]? = some v → Fine bs v k p.1.ins.length) (fun i => (operT p.1.term).length - i)
        (fun i => [(1, true, .pointer (some ⟨bF, 0, none⟩)), (7, true, .slice (some ⟨bR, 0, none⟩) es.length es.length), (8, true, .int .i64 (k : Int)), (9, true, .pointer (some ⟨b9, 0, none⟩)), (62, true, .slice (some a) es.length cap), (63, true, .int .i64 (es.length : Int)), (64, true, .int .i64 (k : Int)), (95, true, .slice qo (operT p.1.term).length co), (96, true, .int .i64 ((operT p.1.term).length : Int)), (97, true, .int .i64 (i : Int))]) (fun i => Cls [pile pB (fun k => k < pT) [⟨qo, co, ints (operT p.1.term)⟩], blk b9 41 [.slice p.2.p.1 p.1.params.length p.2.p.2, .slice p.2.i.1 p.1.ins.length p.2.i.2, .int .i64 p.1.term.kind, .int .i64 p.1.term.arg, .int .i64 p.1.term.n, .slice p.2.t.c.1 p.1.term.cases.length p.2.t.c.2, .slice p.2.t.t.1 p.1.term.to_.length p.2.t.t.2], blk bR 4 (bls B), blk bF 24 [.int .i64 nm, .slice (some a) es.length cap]] [w]) 0 ⟨by omega, fun m v h => by omega⟩ (by exact Sub.au) (fun w' hw' => hw') ?_
      rintro i ⟨hi, hi0⟩
      apply W.sr
      apply obn; rfl; rfl; rfl; apply Bin.lss
      apply OL.nx
      apply W.seq
      (refine W.cnd (fun hlto => ?_) (fun hlto => ?_)) <;> (try (exfalso; first | omega | exact hlto trivial | contradiction))
      · have hil2 : i < (operT p.1.term).length := by omega
        obtain ⟨qa, hqa3⟩ := hqo (by omega)
        obtain ⟨v, hv⟩ : ∃ v, (operT p.1.term)[i]? = some v := ⟨_, List.getElem?_eq_getElem hil2⟩
        have hvm := List.mem_of_getElem? hv
        rw [hqa3]
        apply W.sk
        apply W.sb
        apply W.sr
        apply oop; rfl; apply Pev.idx; rfl; exact yes; rfl; exact yes; rfl; rfl; intro hcond; omega
        (((first | (with_reducible apply OL.op) | (with_reducible apply QL.op)); (exact Guard.au); rfl; rfl); (apply Pev.load_pile (s := ⟨some qa, co, ints (operT p.1.term)⟩)); rfl; ((first | exact fun _ => rfl | exact fun h => h | (intro h; simp_all; done))); (exact .head _); rfl; (exact .head _); rfl; (exact by rw [Nat.mul_one]; exact ints_get hv))
        apply oas; rfl; rfl
        apply OL.nsr
        apply oop; rfl; apply Pev.load_blkA; rfl; exact yes; apply List.Mem.tail; exact .tail _ (.tail _ (.head _)); rfl; exact Take.au
        apply omv; rfl; rfl
        apply omv; rfl; rfl
        apply ofa; rfl; rfl; rfl
        apply old; rfl; rfl; exact .tail _ (.head _); rfl; rfl
        apply oop; rfl; apply Pev.len_slice; rfl; exact yes; rfl
        apply omv; rfl; rfl
        refine OL.callE (α := Bool) (fun r => .bool r) (fun r => r = true ↔ Fine bs v k p.1.ins.length) (fun _ => Cls [pile pB (fun k => k < pT) [⟨some qa, co, ints (operT p.1.term)⟩], blk b9 41 [.slice p.2.p.1 p.1.params.length p.2.p.2, .slice p.2.i.1 p.1.ins.length p.2.i.2, .int .i64 p.1.term.kind, .int .i64 p.1.term.arg, .int .i64 p.1.term.n, .slice p.2.t.c.1 p.1.term.cases.length p.2.t.c.2, .slice p.2.t.t.1 p.1.term.to_.length p.2.t.t.2], blk bR 4 (bls B), blk bF 24 [.int .i64 nm, .slice (some a) es.length cap]] [w]) rfl rfl (by exact Args.au) (fun w2 hw2 => hU v k p.1.ins.length hkl _ _ w2 hw2 (.head _) (fun k hk => by exact NotOwned.au) (by exact mau)) ?_
        intro r hr
        apply oop; rfl; apply Pev.not; rfl; exact yes
        apply OL.nx
        refine W.cond rfl (fun h3 => ?_) (fun h3 => ?_)
        · have hnf : ¬ Fine bs v k p.1.ins.length := fun h => by rw [hr.2 h] at h3; cases h3
          have h6 := hbad k p.1 hbsk (fun h => hnf (h.2 v hvm)) hs0
          apply W.sr
          apply oas; rfl; rfl
          apply OL.nx
          refine W.rt ?_
          ((with_reducible apply At.fin1); rfl; rfl; intro w' hw')
          exact ⟨by rw [h6], (hw'.thin (.any (fun k hk => ⟨Nat.le_trans hpB hk.1, trivial⟩) (.any (fun k hk => by rw [show k = b9 from hk]; exact ⟨hb91, trivial⟩) (.any (fun k hk => by rw [show k = bR from hk]; exact ⟨hbR, trivial⟩) (.any (fun k hk => by rw [show k = bF from hk]; exact ⟨hbF1, trivial⟩) Thin.same))))).fr (by exact mau) (fun k hk => NotOwned.nil)⟩
        · have hfv : Fine bs v k p.1.ins.length := hr.1 (by simpa using h3)
          apply W.skip
          with_reducible apply At.in_normal
          with_reducible apply At.next
          apply W.reg
          apply obn; rfl; rfl; rfl; apply Bin.add_in; omega
          apply omv; rfl; rfl
          apply OL.nil
          refine At.again (i + 1) ⟨by omega, fun m v' hm hv' => ?_⟩ (by omega) (by exact Sub.au) (fun w' hw' => hw')
          by_cases em : m = i
          · subst em
            rw [hv] at hv'
            obtain rfl := Option.some.inj hv'
            exact hfv
          · exact hi0 m v' (by omega) hv'
      · obtain rfl : i = (operT p.1.term).length := by omega
        refine W.xt ?_
        with_reducible apply At.in_normal
        with_reducible apply At.next
        apply W.reg
        apply obn; rfl; rfl; rfl; apply Bin.add_in; omega
        apply omv; rfl; rfl
        apply OL.nil
        refine At.again (k + 1) ⟨by omega, fun k' b hk' hb' => ?_⟩ (by omega) (by exact Sub.au) (fun w' hw' => hw'.thin (.any (fun k hk => ⟨Nat.le_trans hpB hk.1, trivial⟩) (.any (fun k hk => by rw [show k = b9 from hk]; exact ⟨hb91, trivial⟩) Thin.same)))
        by_cases em : k' = k
        · subst em
          rw [hbsk] at hb'
          obtain rfl := Option.some.inj hb'
          exact ⟨fun n i hi v hv => hn0 n i (List.getElem?_eq_some_iff.1 hi).1 hi v hv, fun v hv => by
            obtain ⟨m, hm⟩ := List.getElem?_of_mem hv
            exact hi0 m v (List.getElem?_eq_some_iff.1 hm).1 hm⟩
        · exact hk0 k' b (by omega) hb'
  · obtain rfl : k = es.length := by omega
    have h6 := hF.2 hs0 0 (.inl rfl) ⟨fun _ k b hb => hk0 k b (by have := (List.getElem?_eq_some_iff.1 hb).1; omega) hb, fun _ => rfl⟩
    refine W.xt ?_
    with_reducible apply At.next
    apply W.sr
    apply oas; rfl; rfl
    apply OL.nx
    apply W.ret
    ((with_reducible apply At.fin1); rfl; rfl; intro w' hw')
    exact ⟨by rw [← h6], (hw'.thin (.any (fun k hk => by rw [show k = bR from hk]; exact ⟨hbR, trivial⟩) (.any (fun k hk => by rw [show k = bF from hk]; exact ⟨hbF1, trivial⟩) Thin.same))).fr (by exact mau) (fun k hk => NotOwned.nil)⟩
end Go.Proofs.Ytehelljmaiophaa.ss

/- The walks of the reference's SameInts, Fresh and Preds, and of few. Conditions: none. -/
namespace Go.Ss
open Go.Eng Go.RowKit
def wmax (a v : Int) : Int := if a < IntKind.i64.wrap (v + 1) then IntKind.i64.wrap (v + 1) else a
def freshB (a : Int) (b : Bk) : Int := (b.ins.map In.to_).foldl wmax (b.params.foldl wmax a)
def freshF (bs : List Bk) : Int := bs.foldl freshB 0
end Go.Ss
namespace Go.Proofs.Ytehelljmaiophaa.ss
set_option maxRecDepth 100000
open Go.Eng Go.RowKit Go.Ss
theorem SameInts_calls (q q2 : Option Addr) (cap cap2 : Nat) (l m : List Int) (w : World) (hl : l.length ≤ 9223372036854775807) (hm : m.length ≤ 9223372036854775807) (h : IntsO w (low w) l q) (h2 : IntsO w (low w) m q2) :
    Calls Try.prog 20 #[.slice q l.length cap, .slice q2 m.length cap2] w fun e w' => e = .returned (.bool (decide (l = m))) ∧ Ext w w' := by
  refine enter Try.func20 rfl Try.ntmps20 rfl (Cls.start w) ?_
  (simp only [argEnv, Nat.zero_add, Nat.reduceAdd])
  apply W.sr
  apply oas; rfl; rfl
  apply OL.nx
  apply W.seq
  apply W.sr
  apply omv; rfl; rfl
  apply oop; rfl; apply Pev.len_slice; rfl; exact yes; rfl
  apply omv; rfl; rfl
  apply oop; rfl; apply Pev.len_slice; rfl; exact yes; rfl
  apply obn; rfl; rfl; rfl; apply Bin.neq
  apply OL.nx
  (refine W.cnd (fun hne => ?_) (fun hne => ?_)) <;> (try (exfalso; first | omega | exact hne trivial | contradiction))
  · have hd : decide (l = m) = false := decide_eq_false (fun e => by subst e; omega)
    rw [hd]
    apply W.sr
    apply oas; rfl; rfl
    apply OL.nx
    refine W.rt ?_
    ((with_reducible apply At.fin1); rfl; rfl; intro w' hw')
    exact ⟨rfl, by (exact hw'.fr)⟩
  have hlm : l.length = m.length := by omega
  apply W.sk
  apply W.seq
  apply W.sr
  apply omv; rfl; rfl
  apply oop; rfl; apply Pev.len_slice; rfl; exact yes; rfl
  apply omv; rfl; rfl
  apply OL.nx
  apply W.block
  refine W.loop (G := Nat) (fun i => i ≤ l.length ∧ l.take i = m.take i) (fun i => l.length - i)
    (fun i => [(1, true, .slice q2 m.length cap2), (12, true, .slice q l.length cap), (13, true, .int .i64 (l.length : Int)), (14, true, .int .i64 (i : Int))])
    (fun i => Cls [] [w]) 0 ⟨by omega, rfl⟩ (by exact Sub.au) (fun w' hw' => hw') ?_
  rintro i ⟨hi, hi0⟩
  apply W.sr
  apply obn; rfl; rfl; rfl; apply Bin.lss
  apply OL.nx
  apply W.seq
  (refine W.cnd (fun hlt => ?_) (fun hlt => ?_)) <;> (try (exfalso; first | omega | exact hlt trivial | contradiction))
  · have hil : i < l.length := by omega
    obtain ⟨a, x, hqa, hab, hx, hcx⟩ := h.get hil
    have hab : a.block < w.heap.size := hab
    obtain ⟨a2, x2, hqa2, hab2, hx2, hcx2⟩ := h2.get (show i < m.length by omega)
    have hab2 : a2.block < w.heap.size := hab2
    rw [hqa, hqa2]
    apply W.sk
    apply W.sb
    apply W.sr
    apply omv; rfl; rfl
    apply oop; rfl; apply Pev.idx; rfl; exact yes; rfl; exact yes; rfl; rfl; intro hcond; omega
    apply oop; rfl; apply Pev.load_kept; rfl; exact yes; exact .head _; rfl; intro hcond; assumption; intro hcond; (rw [add_block]; assumption); intro hcond; exact NotOwned.au
    apply oas; rfl; rfl
    apply oas; rfl; rfl
    apply OL.nsr
    apply omv; rfl; rfl
    apply omv; rfl; rfl
    apply oop; rfl; apply Pev.idx; rfl; exact yes; rfl; exact yes; rfl; rfl; intro hcond; omega
    apply oop; rfl; apply Pev.load_kept; rfl; exact yes; exact .head _; rfl; intro hcond; assumption; intro hcond; (rw [add_block]; assumption); intro hcond; exact NotOwned.au
    apply omv; rfl; rfl
    apply obn; rfl; rfl; rfl; apply Bin.neq
    apply OL.nx
    (refine W.cnd (fun hxx => ?_) (fun hxx => ?_)) <;> (try (exfalso; first | omega | exact hxx trivial | contradiction))
    · have hd : decide (l = m) = false := decide_eq_false (fun e => by subst e; rw [hx] at hx2; exact hxx (Option.some.inj hx2).symm)
      rw [hd]
      apply W.sr
      apply oas; rfl; rfl
      apply OL.nx
      refine W.rt ?_
      ((with_reducible apply At.fin1); rfl; rfl; intro w' hw')
      exact ⟨rfl, by (exact hw'.fr)⟩
    · have hxx' : x2 = x := by simpa using hxx
      apply W.skip
      with_reducible apply At.in_normal
      with_reducible apply At.next
      apply W.reg
      apply obn; rfl; rfl; rfl; apply Bin.add_in; omega
      apply omv; rfl; rfl
      apply OL.nil
      exact At.again (i + 1) ⟨by omega, by rw [List.take_add_one, List.take_add_one, hx, hx2, hi0, hxx']⟩ (by omega) (by exact Sub.au) (fun w' hw' => hw')
  · obtain rfl : i = l.length := by omega
    have hd : decide (l = m) = true := decide_eq_true (by rw [List.take_length, hlm, List.take_length] at hi0; exact hi0)
    rw [hd]
    refine W.xt ?_
    with_reducible apply At.next
    apply W.sr
    apply oas; rfl; rfl
    apply OL.nx
    apply W.ret
    ((with_reducible apply At.fin1); rfl; rfl; intro w' hw')
    exact ⟨rfl, by (exact hw'.fr)⟩
theorem Fresh_calls (es : List (Bk × BkY)) (q : Option Addr) (cap : Nat) (nm : Int) (w : World) (he : Arr bkR w (low w) es q) (hlen : es.length ≤ 140737488355328) :
    Calls Try.prog 13 [.agg #[.int .i64 nm, .slice q es.length cap]].toArray w fun e w' => e = .returned (.int .i64 (freshF (es.map Prod.fst))) ∧ Ext w w' := by
  obtain ⟨bs, hbs⟩ : ∃ bs, es.map Prod.fst = bs := ⟨_, rfl⟩
  have hbl : bs.length = es.length := by rw [← hbs, List.length_map]
  rw [hbs]
  refine enter Try.func13 rfl Try.ntmps13 rfl (Cls.start w) ?_
  (simp only [argEnv, Nat.zero_add, Nat.reduceAdd])
  apply W.sr
  apply OL.box; rfl; rfl; exact CellsL.agg; (intro bk hbk; simp only [AllLe, and_true] at hbk)
  apply oas; rfl; rfl
  apply OL.nsr
  apply oas; rfl; rfl
  apply OL.nx
  apply W.seq
  apply W.sr
  apply ofa; rfl; rfl; rfl
  apply old; rfl; rfl; exact .head _; rfl; rfl
  apply oop; rfl; apply Pev.len_slice; rfl; exact yes; rfl
  apply omv; rfl; rfl
  apply OL.nx
  apply W.block
  refine W.loop (G := Nat) (fun k => k ≤ es.length) (fun k => es.length - k)
    (fun k => [(3, true, .int .i64 (freshF (bs.take k))), (11, true, .slice q es.length cap), (12, true, .int .i64 (es.length : Int)), (13, true, .int .i64 (k : Int))])
    (fun _ => Cls [] [w]) 0 (by omega) (by exact Sub.au) (fun w' hw' => hw'.thin (by exact Thin.au)) ?_
  rintro k hk
  apply W.sr
  apply obn; rfl; rfl; rfl; apply Bin.lss
  apply OL.nx
  apply W.seq
  (refine W.cnd (fun hlt => ?_) (fun hlt => ?_)) <;> (try (exfalso; first | omega | exact hlt trivial | contradiction))
  · have hkl : k < es.length := by omega
    obtain ⟨a, p, hqa, hab, hp, hcell, hok⟩ := he.get hkl
    have hab : a.block < w.heap.size := hab
    have hcell : CellsAt w (a.add (k * 7)) [.slice p.2.p.1 p.1.params.length p.2.p.2, .slice p.2.i.1 p.1.ins.length p.2.i.2, .int .i64 p.1.term.kind, .int .i64 p.1.term.arg, .int .i64 p.1.term.n, .slice p.2.t.c.1 p.1.term.cases.length p.2.t.c.2, .slice p.2.t.t.1 p.1.term.to_.length p.2.t.t.2] := hcell
    have hbsk : bs[k]? = some p.1 := by rw [← hbs, List.getElem?_map, hp]; rfl
    have hpl := hok.pl
    have hil := hok.il
    obtain ⟨pi, hpi, hiarr⟩ := hok.i
    have hpil : p.1.ins.length = pi.length := by rw [← hpi, List.length_map]
    have hnx : freshF (bs.take (k + 1)) = freshB (freshF (bs.take k)) p.1 := by
      unfold freshF
      rw [List.take_add_one, hbsk, Option.toList_some, List.foldl_append]
      rfl
    unfold freshB at hnx
    generalize freshF (bs.take k) = z0 at *
    rw [hqa]
    apply W.sk
    apply W.sb
    apply W.sr
    apply oop; rfl; apply Pev.idx; rfl; exact yes; rfl; exact yes; rfl; rfl; intro hcond; omega
    apply oop; rfl; apply Pev.load_keptA; rfl; exact yes; exact .head _; rfl; intro hcond; assumption; rfl; intro hcond; (rw [add_block]; assumption); intro hcond; exact NotOwned.au
    apply OL.alloc; rfl; rfl; exact CellsL.agg; (intro bk hbk; simp only [AllLe, and_true] at hbk)
    apply OL.storeB; rfl; rfl; exact CellsL.agg; rfl; rfl; rfl; exact Swap.au; exact Put.au
    apply OL.nx
    apply W.seq
    apply W.sr
    apply ofa; rfl; rfl; rfl
    apply old; rfl; rfl; exact .head _; rfl; rfl
    apply oop; rfl; apply Pev.len_slice; rfl; exact yes; rfl
    apply omv; rfl; rfl
    apply OL.nx
    apply W.block
    revert bk
    intro b5 hb5
    have hb51 : w.heap.size ≤ b5 := by first | exact hb5 | exact hb5.1
    refine W.loop (G := Nat) (fun j => j ≤ p.1.params.length) (fun j => p.1.params.length - j)
      (fun j => [(3, true, .int .i64 ((p.1.params.take j).foldl wmax z0)), (5, true, .pointer (some ⟨b5, 0, none⟩)), (11, true, .slice (some a) es.length cap), (12, true, .int .i64 (es.length : Int)), (13, true, .int .i64 (k : Int)), (18, true, .slice p.2.p.1 p.1.params.length p.2.p.2), (19, true, .int .i64 (p.1.params.length : Int)), (20, true, .int .i64 (j : Int))])
      (fun _ => Cls [blk b5 41 [.slice p.2.p.1 p.1.params.length p.2.p.2, .slice p.2.i.1 p.1.ins.length p.2.i.2, .int .i64 p.1.term.kind, .int .i64 p.1.term.arg, .int .i64 p.1.term.n, .slice p.2.t.c.1 p.1.term.cases.length p.2.t.c.2, .slice p.2.t.t.1 p.1.term.to_.length p.2.t.t.2]] [w]) 0 (by omega) (by exact Sub.au) (fun w' hw' => hw') ?_
    rintro j hj
    apply W.sr
    apply obn; rfl; rfl; rfl; apply Bin.lss
    apply OL.nx
    apply W.seq
    (refine W.cnd (fun hlt1 => ?_) (fun hlt1 => ?_)) <;> (try (exfalso; first | omega | exact hlt1 trivial | contradiction))
    · obtain ⟨av, v, hqv, habv, hv, hcv⟩ := hok.p.get (show j < p.1.params.length by omega)
      have habv : av.block < w.heap.size := habv
      have hn1 : (p.1.params.take (j + 1)).foldl wmax z0 = wmax ((p.1.params.take j).foldl wmax z0) v := by
        rw [List.take_add_one, hv, Option.toList_some, List.foldl_append]
        rfl
      rw [hqv]
      apply W.sk
      apply W.sb
      apply W.sr
      apply oop; rfl; apply Pev.idx; rfl; exact yes; rfl; exact yes; rfl; rfl; intro hcond; omega
      apply oop; rfl; apply Pev.load_kept; rfl; exact yes; exact .head _; rfl; intro hcond; assumption; intro hcond; (rw [add_block]; assumption); intro hcond; exact NotOwned.au
      apply oas; rfl; rfl
      apply OL.nx
      apply W.reg
      apply omv; rfl; rfl
      apply omv; rfl; rfl
      apply obn; rfl; rfl; rfl; apply Bin.add
      apply oop; rfl; apply Pev.max2; rfl; exact yes; rfl; exact yes
      apply oas; rfl; rfl
      apply OL.nil
      with_reducible apply At.in_normal
      with_reducible apply At.next
      apply W.reg
      apply obn; rfl; rfl; rfl; apply Bin.add_in; omega
      apply omv; rfl; rfl
      apply OL.nil
      exact At.again (j + 1) (by omega) (by omega) (by rw [hn1]; unfold wmax; exact Sub.au) (fun w' hw' => hw')
    obtain rfl : j = p.1.params.length := by omega
    rw [List.take_length]
    generalize p.1.params.foldl wmax z0 = z1 at *
    refine W.xt ?_
    with_reducible apply At.next
    apply W.sr
    apply ofa; rfl; rfl; rfl
    apply old; rfl; rfl; exact .head _; rfl; rfl
    apply oop; rfl; apply Pev.len_slice; rfl; exact yes; rfl
    apply omv; rfl; rfl
    apply OL.nx
    apply W.block
    refine W.loop (G := Nat) (fun j => j ≤ pi.length) (fun j => pi.length - j)
      (fun j => [(3, true, .int .i64 (((p.1.ins.map In.to_).take j).foldl wmax z1)), (11, true, .slice (some a) es.length cap), (12, true, .int .i64 (es.length : Int)), (13, true, .int .i64 (k : Int)), (30, true, .slice p.2.i.1 pi.length p.2.i.2), (31, true, .int .i64 (pi.length : Int)), (32, true, .int .i64 (j : Int))])
      (fun _ => Cls [] [w]) 0 (by omega) (by rw [← hpil]; exact Sub.au) (fun w' hw' => hw'.thin (.any (fun k hk => by rw [show k = b5 from hk]; exact ⟨hb51, trivial⟩) Thin.same)) ?_
    rintro j hj
    apply W.sr
    apply obn; rfl; rfl; rfl; apply Bin.lss
    apply OL.nx
    apply W.seq
    (refine W.cnd (fun hlt2 => ?_) (fun hlt2 => ?_)) <;> (try (exfalso; first | omega | exact hlt2 trivial | contradiction))
    · obtain ⟨ai, u, hqi, haib, hu, hcu, hoku⟩ := hiarr.get (show j < pi.length by omega)
      have haib : ai.block < w.heap.size := haib
      have hcu : CellsAt w (ai.add (j * 4)) [.int .i64 u.1.to_, .int .i64 u.1.op, .int .i64 u.1.n, .slice u.2.1 u.1.args.length u.2.2] := hcu
      have hui : (p.1.ins.map In.to_)[j]? = some u.1.to_ := by rw [← hpi]; simp [hu]
      have hn1 : ((p.1.ins.map In.to_).take (j + 1)).foldl wmax z1 = wmax (((p.1.ins.map In.to_).take j).foldl wmax z1) u.1.to_ := by
        rw [List.take_add_one, hui, Option.toList_some, List.foldl_append]
        rfl
      rw [hqi]
      apply W.sk
      apply W.sb
      apply W.sr
      apply oop; rfl; apply Pev.idx; rfl; exact yes; rfl; exact yes; rfl; rfl; intro hcond; omega
      apply oop; rfl; apply Pev.load_keptA; rfl; exact yes; exact .head _; rfl; intro hcond; assumption; rfl; intro hcond; (rw [add_block]; assumption); intro hcond; exact NotOwned.au
      apply OL.alloc; rfl; rfl; exact CellsL.agg; (intro bk hbk; simp only [AllLe, and_true] at hbk)
      apply OL.storeB; rfl; rfl; exact CellsL.agg; rfl; rfl; rfl; exact Swap.au; exact Put.au
      apply OL.nx
      apply W.reg
      apply omv; rfl; rfl
      apply ofa; rfl; rfl; rfl
      apply old; rfl; rfl; exact .head _; rfl; rfl
      apply obn; rfl; rfl; rfl; apply Bin.add
      apply oop; rfl; apply Pev.max2; rfl; exact yes; rfl; exact yes
      apply oas; rfl; rfl
      apply OL.nil
      with_reducible apply At.in_normal
      with_reducible apply At.next
      apply W.reg
      apply obn; rfl; rfl; rfl; apply Bin.add_in; omega
      apply omv; rfl; rfl
      apply OL.nil
      exact At.again (j + 1) (by omega) (by omega) (by rw [hn1]; unfold wmax; exact Sub.au) (fun w' hw' => hw'.thin (by exact Thin.au))
    obtain rfl : j = pi.length := by omega
    rw [show (p.1.ins.map In.to_).take pi.length = p.1.ins.map In.to_ by rw [List.take_of_length_le]; simp [hpil]]
    rw [← hnx]
    refine W.xt ?_
    with_reducible apply At.in_normal
    with_reducible apply At.next
    apply W.reg
    apply obn; rfl; rfl; rfl; apply Bin.add_in; omega
    apply omv; rfl; rfl
    apply OL.nil
    exact At.again (k + 1) (by omega) (by omega) (by exact Sub.au) (fun w' hw' => hw')
  obtain rfl : k = es.length := by omega
  rw [← hbl, List.take_length]
  refine W.xt ?_
  with_reducible apply At.next
  apply W.sr
  apply omv; rfl; rfl
  apply oas; rfl; rfl
  apply OL.nx
  apply W.ret
  ((with_reducible apply At.fin1); rfl; rfl; intro w' hw')
  exact ⟨rfl, by (exact hw'.fr)⟩
end Go.Proofs.Ytehelljmaiophaa.ss

/- Rows that grow side by side: an item for a table of them, one taken out and put back. General. No condition. -/
namespace Go.Eng
open Go.RowKit
structure Rw where
  O : Nat → Prop
  q : Option Addr
  m : Nat
  cap : Nat
  xs : List Value
def Rw.it (B : Nat) (e : TypeId) (sz : Nat) (r : Rw) : Item := row B r.O r.q r.m r.cap e sz r.xs
def rws (B : Nat) (e : TypeId) (sz : Nat) (f : Nat → Option Rw) : Item :=
  ⟨fun k => ∃ i r, f i = some r ∧ (r.it B e sz).own k,
   fun w => (∀ i r, f i = some r → (r.it B e sz).holds w) ∧ ∀ i j r s, i ≠ j → f i = some r → f j = some s → ∀ k, (r.it B e sz).own k → ¬ (s.it B e sz).own k,
   fun w w' hk h => ⟨fun i r hr => (r.it B e sz).stab w w' (fun k ho => hk k ⟨i, r, hr, ho⟩) (h.1 i r hr), h.2⟩⟩
theorem NotOwned.rws {H : List Item} {B sz k : Nat} {e : TypeId} {f : Nat → Option Rw} (h : k < B) (r : NotOwned H k) : NotOwned (Eng.rws B e sz f :: H) k :=
  NotOwned.any (fun ho => by
    obtain ⟨i, r, _, h2⟩ := ho
    exact absurd h2.1 (by omega)) r
end Go.Eng

/- The walks of the reference's Preds and of cfg's Preds. Conditions: none. -/
namespace Go.Ss
open Go.Eng Go.RowKit
theorem func_zero {f : Go.Ss.Fn} (h : funcE f = 0) : 0 < f.blocks.length ∧ f.blocks.length ≤ 128 ∧ shapeE f.blocks = 0 := by
  unfold funcE at h
  split at h
  · cases h
  · split at h
    · cases h
    · split at h
      · cases h
      · split at h
        · rename_i h4; exact absurd h h4
        · rename_i h1 h2 h3 h4
          exact ⟨by omega, by omega, Classical.not_not.1 h4⟩
def RwsOf (L : List Rw) (n : Nat) (f : Nat → List Int) : Prop := L.length = n ∧ ∀ (k : Nat) r, L[k]? = some r → r.xs = ints (f k) ∧ r.m = (f k).length
theorem RwsOf.set {L : List Rw} {n i : Nat} {f g : Nat → List Int} {r : Rw} (h : RwsOf L n f) (hr : r.xs = ints (g i) ∧ r.m = (g i).length) (hg : ∀ k, k ≠ i → g k = f k) : RwsOf (L.set i r) n g := by
  refine ⟨by rw [List.length_set]; exact h.1, fun k s hs => ?_⟩
  rw [List.getElem?_set] at hs
  split at hs
  · rename_i e
    subst e
    split at hs
    · obtain rfl := Option.some.inj hs
      exact hr
    · cases hs
  · rename_i e
    rw [hg k (fun e2 => e e2.symm)]
    exact h.2 k s hs
end Go.Ss
namespace Go.Proofs.Ytehelljmaiophaa.ss
set_option maxRecDepth 100000
open Go.Eng Go.RowKit Go.Ss
structure XP5 (S : List World) where
  b1 : Nat
  hb1 : AllLe S b1
  g1 : Nat
  c1 : Nat
  O1 : Nat → Prop
  old : Nat → Value
end Go.Proofs.Ytehelljmaiophaa.ss

/- Plain: the depth-first search by recursion and by a stack. No program in sight. No condition. -/
namespace Go.Ss
abbrev VS := List Bool × List Int
def nxt (G : List (List Int)) (k : Nat) : List Int := G.getD k []
def vis (G : List (List Int)) : Nat → Nat → VS → VS
  | 0, _, st => st
  | f + 1, k, st =>
    (((nxt G k).foldl (fun st e => if st.1.getD e.toNat true then st else vis G f e.toNat st) (st.1.set k true, st.2)).1,
     ((nxt G k).foldl (fun st e => if st.1.getD e.toNat true then st else vis G f e.toNat st) (st.1.set k true, st.2)).2 ++ [(k : Int)])
def unseen (S : List Bool) : Nat := S.count false
theorem unseen_set : ∀ {S : List Bool} {k : Nat}, S[k]? = some false → unseen (S.set k true) + 1 = unseen S
  | [], k, h => by simp at h
  | b :: S, 0, h => by
    simp at h
    subst h
    simp [unseen]
  | b :: S, k + 1, h => by
    have := unseen_set (S := S) (k := k) (by simpa using h)
    simp only [unseen, List.set_cons_succ, List.count_cons] at this ⊢
    omega
structure VLe (s t : VS) : Prop where
  len : t.1.length = s.1.length
  un : unseen t.1 ≤ unseen s.1
  le : ∀ i : Nat, s.1[i]? = some true → t.1[i]? = some true
  pre : ∃ r, t.2 = s.2 ++ r
theorem VLe.refl (s : VS) : VLe s s := ⟨rfl, Nat.le_refl _, fun _ h => h, [], by simp⟩
theorem VLe.trans {s t u : VS} (h : VLe s t) (h' : VLe t u) : VLe s u := ⟨h'.len.trans h.len, Nat.le_trans h'.un h.un, fun i hi => h'.le i (h.le i hi), by
  obtain ⟨r, hr⟩ := h.pre
  obtain ⟨r', hr'⟩ := h'.pre
  exact ⟨r ++ r', by rw [hr', hr, List.append_assoc]⟩⟩
theorem VLe.mark {S : List Bool} {out : List Int} (k : Nat) : VLe (S, out) (S.set k true, out) := by
  refine ⟨by simp, ?_, fun i hi => ?_, [], by simp⟩
  · show unseen (S.set k true) ≤ unseen S
    cases h : S[k]? with
    | none =>
      rw [List.set_eq_of_length_le (List.getElem?_eq_none_iff.1 h)]
      exact Nat.le_refl _
    | some b =>
      cases b with
      | false => have := unseen_set h; omega
      | true =>
        have : S.set k true = S := by
          apply List.ext_getElem?
          intro j
          rw [List.getElem?_set]
          split
          · rename_i e
            subst e
            rw [h, if_pos (List.getElem?_eq_some_iff.1 h).1]
          · rfl
        rw [this]
        exact Nat.le_refl _
  · show (S.set k true)[i]? = some true
    rw [List.getElem?_set]
    split
    · rename_i e
      subst e
      rw [if_pos (List.getElem?_eq_some_iff.1 hi).1]
    · exact hi
def visC (G : List (List Int)) (k : Nat) (st : VS) : VS := vis G (st.1.length + 1) k st
def stepC (G : List (List Int)) (st : VS) (e : Int) : VS := if st.1.getD e.toNat true then st else visC G e.toNat st
def foldC (G : List (List Int)) (st : VS) (l : List Int) : VS := l.foldl (stepC G) st
/-! ### by a stack -/
def run (G : List (List Int)) : List (Nat × Nat) → VS → VS
  | [], st => st
  | p :: r, st => run G r ((foldC G st ((nxt G p.1).drop p.2)).1, (foldC G st ((nxt G p.1).drop p.2)).2 ++ [(p.1 : Int)])
end Go.Ss

/- The walks of the reference's visit and After. Conditions: none. -/
namespace Go.Eng
open Go.RowKit
end Go.Eng
namespace Go.Ss
open Go.Eng Go.RowKit
end Go.Ss
namespace Go.Proofs.Ytehelljmaiophaa.ss
set_option maxRecDepth 100000
open Go.Eng Go.RowKit Go.Ss
end Go.Proofs.Ytehelljmaiophaa.ss

/- The walks of cfg's search with what Order hands it. Conditions: none. -/
namespace Go.Eng
open Go.RowKit
theorem AllLe.of {k : Nat} : ∀ {S : List World}, (∀ s ∈ S, s.heap.size ≤ k) → AllLe S k
  | [], _ => trivial
  | s :: S, h => ⟨h s (.head _), AllLe.of fun x hx => h x (.tail _ hx)⟩
section
variable {P : Program} {n : Nat} {l : Env} {H : List Item} {S : List World} {ops : Array Oper} {rest : List Oper} {Q : Exit → Act → World → Prop} {t ty : TypeId} {x y : Operand} {pos : String} {af : Array Edge}
end
end Go.Eng
namespace Go.Ss
open Go.Eng Go.RowKit
structure SgS where
  st : List (Nat × Nat)
  S : List Bool
  out : List Int
  y : GR
  z : GR
structure SInv (G : List (List Int)) (n : Nat) (fin : VS) (g : SgS) : Prop where
  run : Go.Ss.run G g.st (g.S, g.out) = fin
  len : g.S.length = n
  cnt : g.st.length + g.out.length + unseen g.S ≤ n
  ok : ∀ p ∈ g.st, p.1 < n ∧ p.2 ≤ (nxt G p.1).length
end Go.Ss
namespace Go.Proofs.Ytehelljmaiophaa.ss
set_option maxRecDepth 100000
open Go.Eng Go.RowKit Go.Ss
end Go.Proofs.Ytehelljmaiophaa.ss

/- A grown row that a function of the library writes over in place (a sort, a compaction). General. No condition. -/
namespace Go.Eng
open Go.RowKit Go.Sort
end Go.Eng

/-
  DERIVED: THE SHELF's CONTRACTS AT THIS DUMP, IN PLAIN WORDS (tools/lay-plain.mjs out of 'YtehelljmaiophaaShelfD.lean', which tools/lay-shelf.mjs wrote): THE SAME DECLARATIONS UNDER THE SAME NAMES: 'import', 'namespace', 'open', 'def', 'theorem' AND NOTHING ELSE: no command of the shelf's: FOR A HAND-IN. Each laying: the table of numbers ('.._ren') and one theorem, a field a fact of the dump's own or the kernel's comparison; each contract: ONE APPLICATION.
-/
namespace Go.Proofs
open Go.Shelf
end Go.Proofs

/- The walks of cfg's Order and Reachable. Conditions: none. -/
namespace Go.Eng
open Go.RowKit
theorem Cls.plus {H : List Eng.Item} {S : List World} {w2 w3 : World} {i : Eng.Item} (h : Cls H S w2) (hc : Cls [i] [w2] w3) (ho : ∀ k, i.own k → w2.heap.size ≤ k) : Cls (i :: H) S w3 :=
  h.add (hc.toExt (.head _) (fun k hk => NotOwned.any (fun hm => by have := ho k hm; omega) .nil)) i (hc.holds _ (.head _)) (fun k hk => ⟨ho k hk, hc.lt _ (.head _) k hk⟩)
theorem Cls.row_base {H : List Eng.Item} {S : List World} {w : World} {B B' m cap size : Nat} {O : Nat → Prop} {q : Option Addr} {e : TypeId} {xs : List Value} (h : Cls (row B O q m cap e size xs :: H) S w) (hB : B' ≤ B) : Cls (row B' (fun k => B ≤ k ∧ O k) q m cap e size xs :: H) S w := by
  have hd := List.pairwise_cons.1 h.dj
  refine ⟨fun i hi => ?_, fun i hi => ?_, .cons (fun j hj k hk => hd.1 j hj k hk.2) hd.2, fun s hs => (h.kp s hs).mono fun k _ ⟨j, hj, hjk⟩ => ?_⟩
  · cases hi with
    | head =>
      have h0 : (row B O q m cap e size xs).holds w := h.holds _ (.head _)
      refine ⟨fun a ha => ⟨?_, h0.1 a ha⟩, h0.2.1, ?_⟩
      · rcases h0.2.2 with ⟨h3, _⟩ | ⟨g, cap', cur, h3, hb, _⟩
        · rw [ha] at h3; cases h3
        · rw [ha] at h3
          simp only [Value.slice.injEq, Option.some.injEq] at h3
          rw [h3.1]; exact hb
      · rcases h0.2.2 with h3 | ⟨g, cap', cur, h3, hb, h4⟩
        · exact .inl h3
        · exact .inr ⟨g, cap', cur, h3, by omega, h4⟩
    | tail _ hi => exact h.holds _ (.tail _ hi)
  · cases hi with
    | head => exact fun k hk => h.lt (row B O q m cap e size xs) (.head _) k hk.2
    | tail _ hi => exact h.lt _ (.tail _ hi)
  · cases hj with
    | head =>
      have hjk' : B ≤ k ∧ O k := hjk
      exact ⟨_, .head _, by omega, hjk'⟩
    | tail _ hj => exact ⟨_, .tail _ hj, hjk⟩
end Go.Eng
namespace Go.Ss
open Go.Eng Go.RowKit
end Go.Ss
namespace Go.Proofs.Ytehelljmaiophaa.ss
open Go.Eng Go.RowKit Go.Ss Go.Shelf Go.Sort
set_option maxRecDepth 100000
end Go.Proofs.Ytehelljmaiophaa.ss

/- The walks of the law's diamond and cfgWorks. Conditions: none. -/
namespace Go.Ss
open Go.Eng Go.RowKit
theorem arrBlk {α μ : Type} {R : Rel α μ} {w : World} {b : Nat} {e : TypeId} {l : List (α × μ)} (hb : (blk b e (cat R.c l)).holds w) (he : ∀ p ∈ l, R.ok w (low w) p.1 p.2) : Arr R w (low w) l (some ⟨b, 0, none⟩) :=
  ⟨fun _ => ⟨_, rfl, blk_lt hb, fun j v hj => by rw [add_mid, blk_cell hb, Nat.zero_add]; exact hj⟩, he⟩
theorem blkInts {w : World} {b : Nat} {e : TypeId} {l : List Int} (hb : (blk b e (ints l)).holds w) : IntsO w (low w) l (some ⟨b, 0, none⟩) :=
  fun _ => ⟨_, rfl, blk_lt hb, fun j v hj => by rw [add_mid, blk_cell hb, Nat.zero_add]; exact hj⟩
theorem nilS (w : World) (O : Nat → Prop) : IntsO w O [] none := IntsO.nil
end Go.Ss
namespace Go.Proofs.Ytehelljmaiophaa.ss
set_option maxRecDepth 100000
open Go.Eng Go.RowKit Go.Ss
end Go.Proofs.Ytehelljmaiophaa.ss

/- A region that draws its order, whose pure operations come first, whatever its other ones wait for, and whose other ones then follow one behind another. General. No condition. -/
namespace Go.Eng
open Go.RowKit
def pureB (o : Oper) : Bool := match o.op with
  | .move _ => true
  | .assign _ => true
  | .pick .. => true
  | .build .. => true
  | .load .. => true
  | .nilCheck _ => true
  | .binOp .. => true
  | .unOp .. => true
  | .convert .. => true
  | .makeFunc .. => true
  | .slice .. => true
  | .fieldAddr .. => true
  | .field .. => true
  | .indexAddr .. => true
  | .index .. => true
  | .lookup .. => true
  | .extract .. => true
  | .call c => match c.callee with
    | .builtin .len => true
    | .builtin .min => true
    | .builtin .max => true
    | _ => false
  | _ => false
def depB (o : Oper) : Bool := match o.op with
  | .load .. => true
  | .lookup .. => true
  | .index .. => true
  | .convert .. => true
  | _ => false
section
variable {P : Program} {ops : Array Oper} {C0 : World → Prop}
theorem value_only {M : Sem Value} {w : World} {n : Next} {w' : World} (h : (do pure (.value (← M)) : Sem Next).run P w = .ok n w') : ∃ u, n = .value u := by
  rw [Sem.run_bind] at h
  generalize M.run P w = r at h
  cases r with
  | ok v w1 => simp [Result.andThen] at h; exact ⟨v, h.1.symm⟩
  | halt x w1 => simp [Result.andThen] at h
theorem value_bind {α : Type} {M : Sem α} {f : α → Sem Next} (hf : ∀ x w n w', (f x).run P w = .ok n w' → ∃ u, n = .value u) (w : World) (n : Next) (w' : World) (h : (M >>= f).run P w = .ok n w') : ∃ u, n = .value u := by
  rw [Sem.run_bind] at h
  generalize M.run P w = r at h
  cases r with
  | ok v w1 => exact hf _ _ _ _ h
  | halt x w1 => simp [Result.andThen] at h
theorem pure_value {o : Oper} {ρ : Operand → Value} {w : World} {n : Next} {w' : World} (hp : pureB o = true) (h : (execOp ρ o).run P w = .ok n w') : ∃ u, n = .value u := by
  obtain ⟨dst, op, type, pos, after, guard⟩ := o
  cases op <;> simp only [pureB, Bool.false_eq_true] at hp <;> simp only [execOp] at h <;> try (exact value_only h)
  case move x => simp at h; exact ⟨_, h.1.symm⟩
  case assign x => simp at h; exact ⟨_, h.1.symm⟩
  case pick c a b =>
    rw [Sem.run_bind] at h
    generalize (asBool (ρ c)).run P w = r at h
    cases r with
    | ok v w1 => simp [Result.andThen] at h; exact ⟨_, h.1.symm⟩
    | halt x w1 => simp [Result.andThen] at h
  case nilCheck x =>
    split at h
    · simp [runtimePanic] at h
    · simp [runtimePanic] at h
    · simp [runtimePanic] at h
    · split at h
      · simp [runtimePanic] at h
      · refine value_bind (fun p => value_bind (fun q => ?_)) _ _ _ h
        intro w n w' h
        split at h
        · simp only [unsupported, Sem.run_bind] at h
          simp at h
        · simp at h; exact ⟨_, h.1.symm⟩
      · simp at h; exact ⟨_, h.1.symm⟩
    · simp at h; exact ⟨_, h.1.symm⟩
  case call c =>
    obtain ⟨callee, args, ats⟩ := c
    cases callee with
    | builtin b =>
      cases b <;> simp only [Bool.false_eq_true] at hp <;> simp only [resolve, invoke, builtin, Sem.run_bind, Sem.run_pure, Result.andThen_ok] at h
      case len =>
        generalize (Builtin.len_ ats type (Array.map ρ args)).run P w = r at h
        cases r with
        | ok v w1 => simp [Result.andThen] at h; exact ⟨v, h.1.symm⟩
        | halt x w1 => simp [Result.andThen] at h
      case min =>
        generalize (Builtin.min_ ats type (Array.map ρ args)).run P w = r at h
        cases r with
        | ok v w1 => simp [Result.andThen] at h; exact ⟨v, h.1.symm⟩
        | halt x w1 => simp [Result.andThen] at h
      case max =>
        generalize (Builtin.max_ ats type (Array.map ρ args)).run P w = r at h
        cases r with
        | ok v w1 => simp [Result.andThen] at h; exact ⟨v, h.1.symm⟩
        | halt x w1 => simp [Result.andThen] at h
    | value f => simp at hp
    | invoke r m => simp at hp
theorem still_of {D : World → Prop} {o : Oper} {ρ : Operand → Value} {w : World} {v : Value} (hp : pureB o = true) (h : Oper.quietUpon P D w v ((execOp ρ o).run P w)) : (execOp ρ o).run P w = .ok (.value v) w := by
  cases hr : (execOp ρ o).run P w with
  | ok n w' =>
    obtain ⟨u, rfl⟩ := pure_value hp hr
    rw [hr] at h
    simp only [Oper.quietUpon] at h
    rw [h.1, h.2]
  | halt x w' => rw [hr] at h; simp only [Oper.quietUpon] at h
/-! ### What one operation yields, where the class is asked of operations that look at memory alone -/
def YieldsZ (P : Program) (ops : Array Oper) (C0 : World → Prop) (o : Oper) (v : Value) (a : Act) : Prop :=
  (Region.wanted o (yielded ops a.tmps) = true ∧ ∀ w, (depB o = true → C0 w) → (execOp a.eval o).run P w = .ok (.value v) w) ∨
  (Region.wanted o (yielded ops a.tmps) = false ∧ v = undef)
theorem YieldsZ.of_same {o : Oper} {v : Value} {a a' : Act} (hy : YieldsZ P ops C0 o v a) (he : execOp a'.eval o = execOp a.eval o)
    (hw : Region.wanted o (yielded ops a'.tmps) = Region.wanted o (yielded ops a.tmps)) : YieldsZ P ops C0 o v a' := by
  unfold YieldsZ at *
  rw [he, hw]
  exact hy
variable {Q : Exit → Act → World → Prop}
def wpZL (P : Program) (ops : Array Oper) (C0 : World → Prop) (K : Act → Prop) : List Oper → Act → Prop
  | [], a => K a
  | o :: r, a => if Region.wanted o (yielded ops a.tmps) then ∃ v, (∀ w, (depB o = true → C0 w) → (execOp a.eval o).run P w = .ok (.value v) w) ∧ wpZL P ops C0 K r (a.put o.dst v) else wpZL P ops C0 K r (a.put o.dst undef)
def wpT (P : Program) (ops : Array Oper) (C0 : World → Prop) (need : Nat → Bool) (Q : Exit → Act → World → Prop) : List (Nat × Oper) → Act → World → Prop
  | [], a, w => Q .normal a w
  | (k, _) :: r, a, w => wpOp P ops Q k (fun a' w' => (need k = true → C0 w') ∧ wpT P ops C0 need Q r a' w') a w
end
inductive ZSplit : Nat → List Nat → List Oper → List (Nat × Oper) → List (Nat × Oper) → Prop where
  | nil {k : Nat} {tl : List Nat} : ZSplit k tl [] [] []
  | pure {k : Nat} {tl : List Nat} {o : Oper} {r : List Oper} {x y : List (Nat × Oper)} (hp : (pureB o && o.after.toList.all fun e => tl.all fun t => !Nat.beq t e.on) = true) (h : ZSplit (k + 1) tl r x y) : ZSplit k tl (o :: r) ((k, o) :: x) y
  | tail {k : Nat} {tl : List Nat} {o : Oper} {r : List Oper} {x y : List (Nat × Oper)} (h : ZSplit (k + 1) (k :: tl) r x y) : ZSplit k tl (o :: r) x ((k, o) :: y)
theorem ZSplit.spec {k : Nat} {tl : List Nat} {l : List Oper} {x y : List (Nat × Oper)} (h : ZSplit k tl l x y) : (∀ p ∈ x, k ≤ p.1 ∧ l[p.1 - k]? = some p.2 ∧ pureB p.2 = true) ∧ (∀ p ∈ y, k ≤ p.1 ∧ l[p.1 - k]? = some p.2) ∧ x.length + y.length = l.length := by
  induction h with
  | nil => simp
  | @pure k tl o r x y hp h ih =>
    simp only [Bool.and_eq_true] at hp
    refine ⟨fun p hpm => ?_, fun p hpm => ?_, by simp only [List.length_cons]; omega⟩
    · rcases List.mem_cons.1 hpm with rfl | hpm
      · exact ⟨Nat.le_refl _, by simp, hp.1⟩
      · obtain ⟨h1, h2, h3⟩ := ih.1 p hpm
        exact ⟨by omega, by rw [show p.1 - k = (p.1 - (k + 1)) + 1 by omega, List.getElem?_cons_succ]; exact h2, h3⟩
    · obtain ⟨h1, h2⟩ := ih.2.1 p hpm
      exact ⟨by omega, by rw [show p.1 - k = (p.1 - (k + 1)) + 1 by omega, List.getElem?_cons_succ]; exact h2⟩
  | @tail k tl o r x y h ih =>
    refine ⟨fun p hpm => ?_, fun p hpm => ?_, by simp only [List.length_cons]; omega⟩
    · obtain ⟨h1, h2, h3⟩ := ih.1 p hpm
      exact ⟨by omega, by rw [show p.1 - k = (p.1 - (k + 1)) + 1 by omega, List.getElem?_cons_succ]; exact h2, h3⟩
    · rcases List.mem_cons.1 hpm with rfl | hpm
      · exact ⟨Nat.le_refl _, by simp⟩
      · obtain ⟨h1, h2⟩ := ih.2.1 p hpm
        exact ⟨by omega, by rw [show p.1 - k = (p.1 - (k + 1)) + 1 by omega, List.getElem?_cons_succ]; exact h2⟩
structure ZL (P : Program) (n : Nat) (ops : Array Oper) (C0 : World → Prop) (K : Act → Prop) (rest : List (Nat × Oper)) (l : Env) : Prop where
  run : ∀ a, Sees n l a → wpZL P ops C0 K (rest.map (·.2)) a
structure TL (P : Program) (n : Nat) (ops : Array Oper) (C0 : World → Prop) (need : Nat → Bool) (Q : Exit → Act → World → Prop) (y : List (Nat × Oper)) (l : Env) (C : World → Prop) : Prop where
  run : ∀ a w, Sees n l a → C w → wpT P ops C0 need Q y a w
def TQ (P : Program) (ops : Array Oper) (C0 : World → Prop) (need : Nat → Bool) (k : Nat) (r : List (Nat × Oper)) (Q : Exit → Act → World → Prop) : Exit → Act → World → Prop := fun e a w => match e with
  | .normal => (need k = true → C0 w) ∧ wpT P ops C0 need Q r a w
  | e => Q e a w
section
variable {P : Program} {n : Nat} {l : Env} {C C0 : World → Prop} {ops : Array Oper} {Q : Exit → Act → World → Prop} {K : Act → Prop} {o : Oper} {k : Nat} {x y r : List (Nat × Oper)} {need : Nat → Bool}
theorem ZL.nil (h : TL P n ops C0 need Q y l C0) : ZL P n ops C0 (fun a' => ∀ w', C0 w' → wpT P ops C0 need Q y a' w') [] l := ⟨fun a hs w hc => h.run a w hs hc⟩
theorem ZL.step {d : Nat} {c : Bool} {v : Value} (hp : pureB o = true) (hg : Guard l ops o.guard c) (hd : o.dst = some d) (hn : Nat.ble (d + 1) n = true) (hv : Pev P n l (fun w => depB o = true → C0 w) o c v)
    (kk : ZL P n ops C0 K r ((d, c, v) :: l)) : ZL P n ops C0 K ((k, o) :: r) l := by
  have hn' := Nat.le_of_ble_eq_true hn
  refine ⟨fun a hs => ?_⟩
  show wpZL P ops C0 K (o :: r.map (·.2)) a
  unfold wpZL
  rw [hg.wanted hs]
  cases c with
  | true => exact ⟨v, fun w hw => still_of hp (hv.run rfl a w hs hw), by rw [hd]; exact kk.run _ (hs.put hn' true v)⟩
  | false => rw [hd]; exact kk.run _ (hs.put hn' false v)
theorem ZL.op {d : Nat} {c : Bool} {v : Value} (hb : (pureB o && !depB o) = true) (hg : Guard l ops o.guard c) (hd : o.dst = some d) (hn : Nat.ble (d + 1) n = true) (hv : Pev P n l (fun _ => True) o c v)
    (kk : ZL P n ops C0 K r ((d, c, v) :: l)) : ZL P n ops C0 K ((k, o) :: r) l := by
  simp only [Bool.and_eq_true, Bool.not_eq_true'] at hb
  exact ZL.step hb.1 hg hd hn ⟨fun hc a w hs hw => by
    have := hv.run hc a w hs trivial
    rw [still_of hb.1 this]; exact ⟨rfl, rfl⟩⟩ kk
theorem TL.nil (h : At n Q .normal l C) : TL P n ops C0 need Q [] l C := ⟨fun a w hs hc => h.run a w hs hc⟩
theorem TL.one (hi : ops[k]? = some o) (h : OL P n ops (TQ P ops C0 need k r Q) [o] l C) : TL P n ops C0 need Q ((k, o) :: r) l C := ⟨fun a w hs hc => by
  have hp : ∀ ex a w, ex ≠ .normal → TQ P ops C0 need k r Q ex a w → Q ex a w := fun ex a w hne h => by
    cases ex <;> first | exact h | exact absurd rfl hne
  have h := h.run a w hs hc
  show wpOp P ops Q k _ a w
  unfold wpOp
  simp only [hi]
  unfold wpList at h
  split
  · rename_i hw
    rw [if_pos hw] at h
    rcases h with h | ⟨h, a', w', hq⟩
    · refine .inl ?_
      unfold Oper.wp at h ⊢
      exact upon_Q hp h
    · exact .inr ⟨h, a', w', hp _ _ _ (by simp) hq⟩
  · rename_i hw
    rw [if_neg hw] at h
    exact h⟩
end
/-! a guard that is known, among the quiet operations -/
section
variable {P : Program} {n : Nat} {l : Env} {C : World → Prop} {c : Bool} {d : Option Nat} {op : Op} {ty : TypeId} {pos : String} {af : Array Edge} {g : Option (Nat × Bool)} {ops : Array Oper} {K : Act → Prop} {rest : List Oper}
theorem QL.gateOff {dd : Nat} (hg : Guard l ops g c) (hc : c = false) (hn : Nat.ble (dd + 1) n = true) (h : QL P n ops C K rest ((dd, false, undef) :: l)) : QL P n ops C K (⟨some dd, op, ty, pos, af, g⟩ :: rest) l := by
  have hn' := Nat.le_of_ble_eq_true hn
  refine ⟨fun a hs => ?_⟩
  unfold wpQuiet
  rw [hg.wanted hs]
  subst hc
  exact h.run _ (hs.put hn' false undef)
end
end Go.Eng

/- A region that draws its order: quiet operations, one that makes memory, and then others one behind another. General. No condition. -/
namespace Go.Eng
open Go.RowKit
section
variable {P : Program} {ops : Array Oper} {F : Option Nat → World → Prop} {Q : Exit → Act → World → Prop} {m d : Nat} {oa : Oper} {val : Nat → Value}
def Mk (P : Program) (ops : Array Oper) (F : Option Nat → World → Prop) (oa : Oper) (val : Nat → Value) (a : Act) : Prop :=
  Region.wanted oa (yielded ops a.tmps) = true ∧ ∀ w, F none w → ∃ b w', (execOp a.eval oa).run P w = .ok (.value (val b)) w' ∧ F (some b) w'
def wpV (P : Program) (ops : Array Oper) (F : Option Nat → World → Prop) (Q : Exit → Act → World → Prop) (m d : Nat) (oa : Oper) (val : Nat → Value) : Nat → Array Bool → Option Nat → Act → Prop
  | 0, listed, o, a => allB (m + 1) listed = true ∧ ∀ w, F o w → wpAny P .any ops Q 0 listed a w
  | f + 1, listed, o, a => (allB (m + 1) listed = true → ∀ w, F o w → wpAny P .any ops Q (f + 1) listed a w) ∧
      (allB (m + 1) listed = false → Region.ready .any ops listed ≠ [] ∧ ∀ i ∈ Region.ready .any ops listed,
        (i = m → o = none ∧ Mk P ops F oa val a ∧ ∀ b, wpV P ops F Q m d oa val f (listed.setIfInBounds m true) (some b) (a.put (some d) (val b))) ∧
        (i ≠ m → qOp P ops (F o) i (wpV P ops F Q m d oa val f (listed.setIfInBounds i true) o) a))
theorem wpV_all {f : Nat} {listed : Array Bool} {o : Option Nat} {a : Act} (ht : allB (m + 1) listed = true) (h : ∀ w, F o w → wpAny P .any ops Q f listed a w) : wpV P ops F Q m d oa val f listed o a := by
  cases f with
  | zero => exact ⟨ht, h⟩
  | succ f => exact ⟨fun _ => h, fun h0 => by rw [ht] at h0; cases h0⟩
theorem wpAny_of_V (hm : ops[m]? = some oa) (hd : oa.dst = some d) : ∀ (f : Nat) (listed : Array Bool) (o : Option Nat) (a : Act) (w : World), F o w → wpV P ops F Q m d oa val f listed o a → wpAny P .any ops Q f listed a w
  | 0, _, _, _, w, hw, h => h.2 w hw
  | f + 1, listed, o, a, w, hw, h => by
    cases ht : allB (m + 1) listed with
    | true => exact h.1 ht w hw
    | false =>
      refine ⟨fun h0 => absurd h0 (h.2 ht).1, fun i hi => ?_⟩
      obtain ⟨h1, h2⟩ := (h.2 ht).2 i hi
      by_cases him : i = m
      · obtain ⟨ho, hmk, h3⟩ := h1 him
        rw [ho] at hw
        obtain ⟨b, w', hr, hF⟩ := hmk.2 w hw
        rw [him]
        unfold wpOp
        simp only [hm, hmk.1, if_true]
        refine .inl ?_
        show Oper.upon P oa a _ Q ((execOp a.eval oa).run P w)
        rw [hr]
        show wpAny P .any ops Q f _ (a.put oa.dst (val b)) w'
        rw [hd]
        exact wpAny_of_V hm hd f _ _ _ w' hF (h3 b)
      · exact wpOp_of_qOp hw (fun a' w' hw' => wpAny_of_V hm hd f _ _ a' w' hw') (h2 him)
theorem qOp_put' {C : World → Prop} {j : Nat} {oi oj : Oper} {v : Value} (hj : ops[j]? = some oj) (hap : oi.apart ops oj = true)
    (hsj : ∀ cs b, oj.op ≠ .select cs b) {K Y : Act → Prop} {a : Act} (keep : ∀ u, Y (a.put oj.dst u)) (h : qOp P ops C j K (a.put oi.dst v)) :
    qOp P ops C j (fun a' => Y a' ∧ K (a'.put oi.dst v)) a := by
  obtain ⟨h1, h2, h3⟩ := Oper.apart_spec hap
  unfold qOp at *
  simp only [hj] at *
  rw [wanted_put oj a oi.dst v h1] at h
  split
  · rename_i hw
    simp only [hw, if_true] at h
    obtain ⟨u, hu, hn⟩ := h
    refine ⟨u, fun w hw' => ?_, keep u, by rw [← Act.put_comm a v u h2]; exact hn⟩
    have := hu w hw'
    unfold Oper.quietAt at *
    rwa [execOp_put oj hsj a oi.dst v h1] at this
  · rename_i hw
    simp only [hw] at h
    exact ⟨keep _, by rw [← Act.put_comm a v undef h2]; exact h⟩
theorem wpV_first {i : Nat} {oi : Oper} {v : Value} (hi : ops[i]? = some oi) (him : i < m) (hwait : waitB ops (m + 1) = true) (hsel : ∀ (j : Nat) (o : Oper) cs b, ops[j]? = some o → o.op ≠ .select cs b) (hoa : ops[m]? = some oa) (hda : oa.dst = some d) :
    ∀ (fuel : Nat) (listed : Array Bool) (o : Option Nat) (a : Act),
      Dn ops listed → (∀ j oj, ops[j]? = some oj → j ≠ i → listed.getD j true = false → (∀ e ∈ oj.after, Region.binds .any e = true → e.on ≠ i) → oi.apart ops oj = true) →
      i ∈ Region.ready .any ops listed → (∀ o', YieldsIn P ops (F o') oi v a) →
      wpV P ops F Q m d oa val fuel (listed.setIfInBounds i true) o (a.put oi.dst v) → wpV P ops F Q m d oa val (fuel + 1) listed o a := by
  intro fuel
  induction fuel with
  | zero =>
    intro listed o a hD _ hr hy H
    have hT := allB_no (m := m + 1) (by omega : i < m + 1) (mem_ready.1 hr).1
    refine ⟨fun h => (by rw [hT] at h; cases h), fun _ => ⟨fun h => (by rw [h] at hr; cases hr), fun j hj => ?_⟩⟩
    by_cases hji : j = i
    · subst hji; exact ⟨fun e => by omega, fun _ => (hy o).qOp hi H⟩
    · exfalso
      obtain ⟨hjun, oj, hoj, hall⟩ := mem_ready.1 hj
      have hjm : j < m + 1 := by
        rcases Nat.lt_or_ge j (m + 1) with h | h
        · exact h
        · have h1 := waits_done hD _ j oj hoj hall (waitB_spec hwait hoj h (by omega : i < m + 1))
          rw [getD_ft (mem_ready.1 hr).1] at h1
          cases h1
      have := allB_no hjm (by rw [getD_set_ne true (Ne.symm hji)]; exact hjun : (listed.setIfInBounds i true).getD j true = false)
      rw [H.1] at this
      cases this
  | succ fuel ih =>
    intro listed o a hD hfree hr hy H
    have hT := allB_no (m := m + 1) (by omega : i < m + 1) (mem_ready.1 hr).1
    refine ⟨fun h => (by rw [hT] at h; cases h), fun _ => ⟨fun h => (by rw [h] at hr; cases hr), fun j hj => ?_⟩⟩
    by_cases hji : j = i
    · subst hji; exact ⟨fun e => by omega, fun _ => (hy o).qOp hi H⟩
    · obtain ⟨hjun, oj, hoj, hall⟩ := mem_ready.1 hj
      have hnot : ∀ e ∈ oj.after, Region.binds .any e = true → e.on ≠ i := fun e he hb heq => by
        have h1 := hall e he hb
        have h0 := (mem_ready.1 hr).1
        rw [heq] at h1
        rcases Nat.lt_or_ge i listed.size with h' | h'
        · simp [h'] at h0 h1; rw [h0] at h1; cases h1
        · simp [Array.getElem?_eq_none h'] at h1
      have hjm : j < m + 1 := by
        rcases Nat.lt_or_ge j (m + 1) with h | h
        · exact h
        · have h1 := waits_done hD _ j oj hoj hall (waitB_spec hwait hoj h (by omega : i < m + 1))
          rw [getD_ft (mem_ready.1 hr).1] at h1
          cases h1
      have hT' := allB_no hjm (by rw [getD_set_ne true (Ne.symm hji)]; exact hjun : (listed.setIfInBounds i true).getD j true = false)
      have h1 := (H.2 hT').2 j (ready_mono hj hji)
      have hap := hfree j oj hoj hji hjun hnot
      obtain ⟨g1, g2, g3⟩ := Oper.apart_spec hap
      have keep : ∀ u, ∀ o', YieldsIn P ops (F o') oi v (a.put oj.dst u) := fun u o' =>
        (hy o').of_same (execOp_put oi (fun cs b => hsel i oi cs b hi) a oj.dst u g3) (wanted_put oi a oj.dst u g3)
      have hfree' : ∀ k ok, ops[k]? = some ok → k ≠ i → (listed.setIfInBounds j true).getD k true = false →
          (∀ e ∈ ok.after, Region.binds .any e = true → e.on ≠ i) → oi.apart ops ok = true := fun k ok hk hki hun hno => by
        refine hfree k ok hk hki ?_ hno
        by_cases hjk : j = k
        · subst hjk; exact hjun
        · rw [getD_set_ne true hjk] at hun; exact hun
      refine ⟨fun e => ?_, fun hne => ?_⟩
      · subst e
        obtain ⟨e1, e2, e3⟩ := h1.1 rfl
        rw [hoa] at hoj
        obtain rfl := Option.some.inj hoj
        refine ⟨e1, ⟨?_, fun w hw => ?_⟩, fun b => ?_⟩
        · have := e2.1
          rwa [wanted_put oa a oi.dst v g1] at this
        · have := e2.2 w hw
          rwa [execOp_put oa (fun cs b => hsel j oa cs b hoa) a oi.dst v g1] at this
        · have h5 := e3 b
          refine ih (listed.setIfInBounds j true) (some b) _ (hD.set hj) hfree' (ready_mono hr (Ne.symm hji)) (fun o' => by rw [← hda]; exact keep _ o') ?_
          rw [Array.setIfInBounds_comm _ _ hji, ← hda, ← Act.put_comm a v (val b) g2, hda]
          exact h5
      · have h2 := qOp_put' (Y := fun a' => ∀ o', YieldsIn P ops (F o') oi v a') hoj hap (fun cs b => hsel j oj cs b hoj) keep (h1.2 hne)
        refine qOp_mono (fun a' h3 => ih (listed.setIfInBounds j true) o a' (hD.set hj) hfree' (ready_mono hr (Ne.symm hji)) h3.1 ?_) h2
        rw [Array.setIfInBounds_comm _ _ hji]
        exact h3.2
theorem wpQuiet_keep {C : World → Prop} {K : Act → Prop} {t : Nat} : ∀ (l : List Oper) (a : Act), wpQuiet P ops C K l a → (∀ o ∈ l, o.dst ≠ some t) → ∃ a', K a' ∧ a'.tmps[t]? = a.tmps[t]?
  | [], a, h, _ => ⟨a, h, rfl⟩
  | o :: l, a, h, hd => by
    have hput : ∀ v, (a.put o.dst v).tmps[t]? = a.tmps[t]? := fun v => by
      have hne := hd o (.head _)
      cases ho : o.dst with
      | none => rfl
      | some e =>
        have : e ≠ t := fun x => hne (by rw [ho, x])
        show (a.tmps.setIfInBounds e v)[t]? = _
        rw [Array.getElem?_setIfInBounds_ne this]
    rw [wpQuiet] at h
    split at h
    · obtain ⟨v, _, h2⟩ := h
      obtain ⟨a', h3, h4⟩ := wpQuiet_keep l _ h2 (fun x hx => hd x (.tail _ hx))
      exact ⟨a', h3, by rw [h4, hput]⟩
    · obtain ⟨a', h3, h4⟩ := wpQuiet_keep l _ h (fun x hx => hd x (.tail _ hx))
      exact ⟨a', h3, by rw [h4, hput]⟩
def slotsB (n : Nat) (keys : List Nat) : List Oper → Bool
  | [] => true
  | o :: l => (match o.dst with | some t => Nat.blt t n && (keys.any (Nat.beq t) && l.all fun x => match x.dst with | some u => !(Nat.beq u t) | none => true) | none => false) && slotsB n keys l
theorem look_key : ∀ {l : Env} {t : Nat}, (l.map (·.1)).any (Nat.beq t) = true → ∃ c v, look l t = some (c, v)
  | [], t, h => by simp at h
  | (u, c, v) :: l, t, h => by
    simp only [List.map_cons, List.any_cons, Bool.or_eq_true] at h
    simp only [look]
    by_cases e : u = t
    · subst e
      rw [Nat.beq_refl, cond_true]
      exact ⟨c, v, rfl⟩
    · rw [show Nat.beq u t = false from by rw [Bool.eq_false_iff]; intro hb; exact e (Nat.eq_of_beq_eq_true hb), cond_false]
      refine look_key (h.resolve_left fun hb => e (Nat.eq_of_beq_eq_true hb).symm)
theorem put_size {a : Act} {x : Option Tmp} {v : Value} : (a.put x v).tmps.size = a.tmps.size := by
  cases x with
  | none => rfl
  | some t => show (a.tmps.setIfInBounds t v).size = _; rw [Array.size_setIfInBounds]
theorem one_value {n : Nat} {lK : Env} {C C' : World → Prop} {o : Oper} {l : List Oper} {a : Act} {v v' : Value} (hs : slotsB n (lK.map (·.1)) (o :: l) = true) (hn : a.tmps.size = n)
    (h : wpQuiet P ops C (fun a' => Sees n lK a') l (a.put o.dst v)) (h' : wpQuiet P ops C' (fun a' => Sees n lK a') l (a.put o.dst v')) : v = v' := by
  simp only [slotsB, Bool.and_eq_true] at hs
  cases ho : o.dst with
  | none => rw [ho] at hs; simp at hs
  | some t =>
    rw [ho] at hs h h'
    simp only [Bool.and_eq_true] at hs
    obtain ⟨⟨h1, h2, h3⟩, _⟩ := hs
    have htn : t < n := Nat.le_of_ble_eq_true h1
    obtain ⟨c, u, hl⟩ := look_key h2
    have hno : ∀ x ∈ l, x.dst ≠ some t := fun x hx hxd => by
      have := List.all_eq_true.1 h3 x hx
      rw [hxd] at this
      simp [Nat.beq_refl] at this
    have key : ∀ (C : World → Prop) (v : Value), wpQuiet P ops C (fun a' => Sees n lK a') l (a.put (some t) v) → v = bif c then u else undef := fun C v h => by
      obtain ⟨a', h4, h5⟩ := wpQuiet_keep l _ h hno
      have h6 := h4.at_ t c u hl
      have h7 : (a.put (some t) v).tmps[t]? = some v := by
        show (a.tmps.setIfInBounds t v)[t]? = some v
        rw [Array.getElem?_setIfInBounds_self, if_pos (by rw [hn]; exact htn)]
      rw [h5, h7] at h6
      exact Option.some.inj h6
    rw [key C v h, key C' v' h']
theorem wpV_lex {n : Nat} {lK : Env} (hsl : Region.noSelect ops = true) (hwait : waitB ops (m + 1) = true) (hoa : ops[m]? = some oa) (hda : oa.dst = some d) {f : Nat} : ∀ (l : List Oper) (k : Nat) (li : Array Bool) (a : Act), a.tmps.size = n → Dn ops li → k + l.length = m → (∀ j, j < l.length → l[j]? = ops[k + j]?) →
    preB ops l.length k li = true → slotsB n (lK.map (·.1)) l = true → (Region.ready .any ops (runL l.length k li) = [m]) → (allB (m + 1) ((runL l.length k li).setIfInBounds m true) = true) → (∀ o, wpQuiet P ops (F o) (fun a' => Sees n lK a') l a) →
    (∀ a, Sees n lK a → Mk P ops F oa val a ∧ ∀ b w, F (some b) w → wpAny P .any ops Q f ((runL l.length k li).setIfInBounds m true) (a.put (some d) (val b)) w) → wpV P ops F Q m d oa val (l.length + 1 + f) li none a
  | [], k, li, a, _, _, _, _, _, _, hr, hA, h, hK => by
    obtain ⟨h1, h2⟩ := hK a (h none)
    rw [List.length_nil, show 0 + 1 + f = f + 1 by omega]
    have hm : m ∈ Region.ready .any ops li := by
      have hr' : Region.ready .any ops li = [m] := hr
      rw [hr']; exact .head _
    have hT := allB_no (m := m + 1) (by omega : m < m + 1) (mem_ready.1 hm).1
    refine ⟨fun h => (by rw [hT] at h; cases h), fun _ => ⟨fun h => (by rw [h] at hm; cases hm), fun i hi => ⟨fun _ => ⟨rfl, h1, fun b => wpV_all hA (h2 b)⟩, fun hne => ?_⟩⟩⟩
    have hr' : Region.ready .any ops li = [m] := hr
    rw [hr'] at hi
    exact absurd (List.mem_singleton.1 hi) hne
  | o :: l, k, li, a, hn, hD, hk, hl, hB, hS, hr, hA, h, hK => by
    have h0 : ops[k]? = some o := by simpa using (hl 0 (by simp)).symm
    simp only [List.length_cons, preB, Bool.and_eq_true] at hB
    obtain ⟨⟨hr1, hf⟩, hB'⟩ := hB
    have hst : ∀ o', ∃ v, YieldsIn P ops (F o') o v a ∧ wpQuiet P ops (F o') (fun a' => Sees n lK a') l (a.put o.dst v) := fun o' => yieldsIn_of_qOp h0 (by unfold qOp; simp only [h0]; exact h o')
    obtain ⟨v, _, hv2⟩ := hst none
    have hall : ∀ o', YieldsIn P ops (F o') o v a ∧ wpQuiet P ops (F o') (fun a' => Sees n lK a') l (a.put o.dst v) := fun o' => by
      obtain ⟨v', g1, g2⟩ := hst o'
      obtain rfl := one_value hS hn hv2 g2
      exact ⟨g1, g2⟩
    have hS' : slotsB n (lK.map (·.1)) l = true := by
      simp only [slotsB, Bool.and_eq_true] at hS
      exact hS.2
    rw [List.length_cons, show l.length + 1 + 1 + f = (l.length + 1 + f) + 1 by omega]
    simp only [List.length_cons] at hk
    exact wpV_first h0 (by omega) hwait (Region.noSelect_spec hsl) hoa hda _ li none a hD (Region.free_spec h0 hf) (by simpa using hr1) (fun o' => (hall o').1)
      (wpV_lex hsl hwait hoa hda l (k + 1) _ _ (by rw [put_size]; exact hn) (hD.set (by simpa using hr1)) (by omega) (fun j hj => by have := hl (j + 1) (by simp only [List.length_cons]; omega); simpa [Nat.add_assoc, Nat.add_comm 1 j] using this) hB' hS' hr hA (fun o' => (hall o').2) hK)
def mkB (ops : Array Oper) (m t : Nat) : Bool := Region.noSelect ops && (waitB ops (m + 1) && (preB ops m 0 (Array.replicate ops.size false) && (allB (m + 1) ((runL m 0 (Array.replicate ops.size false)).setIfInBounds m true) && (seqB ops (t + 1) m (runL m 0 (Array.replicate ops.size false)) && Nat.beq (m + 1 + t) ops.size))))
end
section
variable {P : Program} {n : Nat} {l : Env} {Q : Exit → Act → World → Prop} {H : List Item} {S : List World}
theorem W.regv {F : Option Nat → World → Prop} {lK : Env} {d : Nat} {val : Nat → Value} (k : Nat) {id : Nat} {l0 x y : List Oper} {oa : Oper} {C : World → Prop} (hs : SplitN k l0 x (oa :: y)) (hm : P.follows .mixedOrders = true) (hB : mkB (x ++ oa :: y).toArray x.length y.length = true) (hC : ∀ w, C w → F none { w with drawn := w.drawn + 1 })
    (hd : oa.dst = some d) (hg : oa.guard = none) (hdn : Nat.blt d n = true)
    (hq : ∀ o, QL P n l0.toArray (F o) (fun a' => Sees n lK a') x l) (hS : slotsB n (lK.map (·.1)) x = true)
    (hv : ∀ a w, Sees n lK a → F none w → ∃ b w', (execOp a.eval oa).run P w = .ok (.value (val b)) w' ∧ F (some b) w')
    (h : ∀ b, OL P n l0.toArray Q y ((d, true, val b) :: lK) (F (some b))) : W P n (.region id l0.toArray true) Q l C := ⟨fun a w hs' hc => by
  have := hs.eq
  subst this
  simp only [mkB, Bool.and_eq_true] at hB
  obtain ⟨h1, h2, h3, h4, h5, h6⟩ := hB
  have h7 := h5
  simp only [seqB, Bool.and_eq_true, beq_iff_eq] at h7
  have hoa : (x ++ oa :: y).toArray[x.length]? = some oa := by simp
  have e : x.length + 1 + y.length = (x ++ oa :: y).toArray.size := by simp; omega
  refine wp_region_any hm (wpAny_of_V (F := F) (m := x.length) (d := d) (oa := oa) (val := val) hoa hd _ _ none _ _ (hC w hc) ?_)
  have key := wpV_lex (P := P) (F := F) (Q := Q) (val := val) (f := y.length) (lK := lK) h1 h2 hoa hd x 0 (Array.replicate (x ++ oa :: y).toArray.size false) a hs'.sz (fun j o _ hj => by rw [getD_rep] at hj; cases hj) (by omega) (fun j hj => by simp [List.getElem?_append_left hj]) h3 hS h7.1 h4 (fun o => (hq o).run a hs')
    (fun a' ha' => ⟨⟨by unfold Region.wanted; rw [hg], fun w hw => hv a' w ha' hw⟩, fun b w' hw' => wpAny_seq y (x.length + 1) _ _ w' (fun j => by simp [List.getElem?_append_right, Nat.add_assoc, Nat.add_comm 1 j]) h7.2 ((h b).run _ w' (ha'.put (Nat.le_of_ble_eq_true hdn) true (val b)) hw')⟩)
  exact (congrArg (fun s => wpV P (x ++ oa :: y).toArray F Q x.length d oa val s (Array.replicate (x ++ oa :: y).toArray.size false) none a) e).mp key⟩
theorem wpQuiet_none {P : Program} {ops : Array Oper} {C C' : World → Prop} {K : Act → Prop} (hC : ∀ w, ¬ C' w) : ∀ (l : List Oper) (a : Act), wpQuiet P ops C K l a → wpQuiet P ops C' K l a
  | [], _, h => h
  | o :: l, a, h => by
    rw [wpQuiet] at h ⊢
    split at h
    · rename_i hw
      obtain ⟨v, _, h2⟩ := h
      rw [if_pos hw]
      exact ⟨v, fun w hw => absurd hw (hC w), wpQuiet_none hC l _ h2⟩
    · rename_i hw
      rw [if_neg hw]
      exact wpQuiet_none hC l _ h
theorem QL.sees {ops : Array Oper} {C : World → Prop} : QL P n ops C (fun a' => Sees n l a') [] l := ⟨fun a hs => hs⟩
theorem Cls.nothing_in {w : World} (h : Cls H S w) : Cls (nothing :: H) S w := h.add (Keep.refl _ w) _ trivial (fun k hk => hk.elim)
theorem Cls.nothing_out {w : World} (h : Cls (nothing :: H) S w) : Cls H S w := h.thin (.any (fun k hk => hk.elim) Thin.same)
theorem W.rega {lK : Env} {d : Nat} {id : Nat} {l0 x y : List Oper} {e ty : TypeId} {pos : String} {af : Array Edge} {v : Value} {cs : List Value} (hs : Split l0 x (⟨some d, .alloc e, ty, pos, af, none⟩ :: y)) (hm : P.follows .mixedOrders = true) (hB : mkB (x ++ ⟨some d, .alloc e, ty, pos, af, none⟩ :: y).toArray x.length y.length = true)
    (hdn : Nat.blt d n = true) (hz : zeroV P e = some v) (hv : CellsL v cs)
    (hq : ∀ (c : Bool) (b : Nat), AllLe S b → QL P n l0.toArray (Cls ((bif c then blk b e cs else nothing) :: H) S) (fun a' => Sees n lK a') x l) (hS : slotsB n (lK.map (·.1)) x = true)
    (h : ∀ b, AllLe S b → OL P n l0.toArray Q y ((d, true, .pointer (some ⟨b, 0, none⟩)) :: lK) (Cls (blk b e cs :: H) S)) : W P n (.region id l0.toArray true) Q l (Cls H S) := by
  have hlen : SplitN x.length l0 x (⟨some d, .alloc e, ty, pos, af, none⟩ :: y) := by
    have := hs.eq
    subst this
    clear hs hB hq hS h
    induction x with
    | nil => exact .z
    | cons o x ih => exact .s ih
  by_cases hex : ∃ b, AllLe S b
  · obtain ⟨b0, hb0⟩ := hex
    have h0 := hq false b0 hb0
    refine W.regv (F := fun o => match o with | none => Cls (nothing :: H) S | some b => fun w => AllLe S b ∧ Cls (blk b e cs :: H) S w) (val := fun b => .pointer (some ⟨b, 0, none⟩)) x.length hlen hm hB (fun w hw => hw.nothing_in.drew) rfl rfl hdn (fun o => ?_) hS (fun a w hs hc => ?_) (fun b => ⟨fun a w hs hc => (h b hc.1).run a w hs hc.2⟩)
    · cases o with
      | none => exact h0
      | some b =>
        by_cases hb : AllLe S b
        · have h1 := hq true b hb
          have e1 : (fun w => AllLe S b ∧ Cls (blk b e cs :: H) S w) = Cls (blk b e cs :: H) S := by
            funext w
            exact propext ⟨fun h => h.2, fun h => ⟨hb, h⟩⟩
          show QL P n l0.toArray (fun w => AllLe S b ∧ Cls (blk b e cs :: H) S w) _ x l
          rw [e1]
          exact h1
        · exact ⟨fun a hs => wpQuiet_none (fun w hw => hb hw.1) x a (h0.run a hs)⟩
    · have hc' := Cls.nothing_out hc
      exact ⟨w.heap.size, w.alloc (.cells v.cells e), by simp only [execOp, Instr.alloc, Sem.run_bind, run_zeroV hz, Result.andThen_ok]; rfl, AllLe.mk hc', by rw [hv.eq]; exact hc'.alloc e cs⟩
  · refine ⟨fun a w hs hc => absurd ⟨w.heap.size, AllLe.mk hc⟩ hex⟩
end
end Go.Eng

/- Plain: what the depth-first search marks and gives out. No program in sight. No condition. -/
namespace Go.Ss
structure VT (G : List (List Int)) (s t : VS) : Prop where
  le : VLe s t
  nw : ∃ r, t.2 = s.2 ++ r ∧ r.Nodup ∧ ∀ v : Int, v ∈ r ↔ ∃ k : Nat, v = (k : Int) ∧ s.1[k]? = some false ∧ t.1[k]? = some true
  cl : ∀ a b : Nat, s.1[a]? = some false → t.1[a]? = some true → Edge G a b → b < G.length → t.1[b]? = some true
  sd : ∀ a : Nat, s.1[a]? = some false → t.1[a]? = some true → Rc G (-1) a
theorem VT.refl (G : List (List Int)) (s : VS) : VT G s s where
  le := .refl s
  nw := ⟨[], by simp, by simp, fun v => ⟨fun h => (by cases h), fun ⟨k, _, h1, h2⟩ => (by rw [h1] at h2; cases h2)⟩⟩
  cl := fun a b h1 h2 => by rw [h1] at h2; cases h2
  sd := fun a h1 h2 => by rw [h1] at h2; cases h2
theorem mark_cases {s : VS} {t : VS} (h : VLe s t) {k : Nat} {b : Bool} (hk : s.1[k]? = some b) : t.1[k]? = some false ∨ t.1[k]? = some true := by
  have h1 := (List.getElem?_eq_some_iff.1 hk).1
  have h2 : k < t.1.length := by rw [h.len]; exact h1
  rw [List.getElem?_eq_getElem h2]
  cases t.1[k] <;> simp
theorem VT.trans {G : List (List Int)} {s t u : VS} (h : VT G s t) (h' : VT G t u) : VT G s u where
  le := h.le.trans h'.le
  nw := by
    obtain ⟨r, h1, h2, h3⟩ := h.nw
    obtain ⟨r', h4, h5, h6⟩ := h'.nw
    refine ⟨r ++ r', by rw [h4, h1, List.append_assoc], ?_, fun v => ?_⟩
    · rw [List.nodup_append]
      refine ⟨h2, h5, fun a ha b hb => ?_⟩
      rintro rfl
      obtain ⟨k, rfl, _, h7⟩ := (h3 _).1 ha
      obtain ⟨k', e, h8, _⟩ := (h6 _).1 hb
      have : k = k' := by omega
      subst this
      rw [h7] at h8
      cases h8
    · rw [List.mem_append, h3, h6]
      constructor
      · rintro (⟨k, e, h7, h8⟩ | ⟨k, e, h7, h8⟩)
        · exact ⟨k, e, h7, h'.le.le k h8⟩
        · refine ⟨k, e, ?_, h8⟩
          have hl := (List.getElem?_eq_some_iff.1 h7).1
          rw [h.le.len] at hl
          have h9 := List.getElem?_eq_getElem hl
          cases hb : s.1[k] with
          | false => rw [h9, hb]
          | true =>
            rw [hb] at h9
            rw [h.le.le k h9] at h7
            cases h7
      · rintro ⟨k, e, h7, h8⟩
        rcases mark_cases h.le h7 with h9 | h9
        · exact .inr ⟨k, e, h9, h8⟩
        · exact .inl ⟨k, e, h7, h9⟩
  cl := fun a b h1 h2 he hb => by
    rcases mark_cases h.le h1 with h9 | h9
    · exact h'.cl a b h9 h2 he hb
    · exact h'.le.le b (h.cl a b h1 h9 he hb)
  sd := fun a h1 h2 => by
    rcases mark_cases h.le h1 with h9 | h9
    · exact h'.sd a h9 h2
    · exact h.sd a h1 h9
end Go.Ss







/- The walks of ssa's operations on words and on finished values. Conditions: none. -/
namespace Go.Ss
open Go.Eng Go.RowKit
theorem and_low (x : Int) : bits .and .i64 x 2147483647 = x % 2147483648 := by
  have h1 : (BitVec.ofInt 64 2147483647).toNat = 2 ^ 31 - 1 := by decide
  have h2 : (BitVec.ofInt 64 x).toNat = (x % 18446744073709551616).toNat := by
    rw [BitVec.toNat_ofInt]; rfl
  show IntKind.i64.wrap ((BitVec.ofInt 64 x &&& BitVec.ofInt 64 2147483647).toNat : Int) = _
  rw [BitVec.toNat_and, h1, Nat.and_two_pow_sub_one_eq_mod, h2, IntKind.wrap_i64]
  omega
theorem wrap_wd (n : Int) : IntKind.i64.wrap (bits .and .i64 (IntKind.i64.wrap (n + 1073741824)) 2147483647 - 1073741824) = wd n := by
  rw [and_low]; simp only [IntKind.wrap_i64]; unfold wd; omega
theorem wd_wrap (n : Int) : wd (IntKind.i64.wrap n) = wd n := by simp only [IntKind.wrap_i64]; unfold wd; omega
theorem wd_mul (a b : Int) : wd (wd a * wd b) = wd (a * b) := by
  have h1 : wd a % 2147483648 = a % 2147483648 := by unfold wd; omega
  have h2 : wd b % 2147483648 = b % 2147483648 := by unfold wd; omega
  have h3 : (wd a * wd b) % 2147483648 = (a * b) % 2147483648 := by rw [Int.mul_emod, h1, h2, ← Int.mul_emod]
  unfold wd at h3 ⊢
  omega
theorem wd_id {n : Int} (h : -1073741824 ≤ n ∧ n ≤ 1073741823) : wd n = n := by unfold wd; omega
theorem tdiv_bd {a b : Int} (ha : -1073741824 ≤ a ∧ a ≤ 1073741823) : -1073741824 ≤ a.tdiv b ∧ a.tdiv b ≤ 1073741824 := by
  have h1 : (a.tdiv b).natAbs ≤ a.natAbs := by rw [Int.natAbs_tdiv]; exact Nat.div_le_self _ _
  omega
end Go.Ss
namespace Go.Proofs.Ytehelljmaiophaa.ss
set_option maxRecDepth 100000
open Go.Eng Go.RowKit Go.Ss
theorem wrap_calls (n : Int) (w : World) : Calls Try.prog 187 [.int .i64 n].toArray w fun e w' => e = .returned (.int .i64 (wd n)) ∧ Ext w w' := by
  refine enter Try.func187 rfl Try.ntmps187 rfl (Cls.start w) ?_
  (simp only [argEnv, Nat.zero_add, Nat.reduceAdd])
  apply W.sr
  apply oas; rfl; rfl
  apply OL.nsr
  apply omv; rfl; rfl
  apply obn; rfl; rfl; rfl; apply Bin.add
  apply obn; rfl; rfl; rfl; apply Bin.and
  apply obn; rfl; rfl; rfl; apply Bin.sub
  apply oas; rfl; rfl
  apply OL.nx
  apply W.ret
  ((with_reducible apply At.fin1); rfl; rfl; intro w' hw')
  exact ⟨by rw [wrap_wd], by (exact hw'.fr)⟩
theorem add_calls (a b : Int) (w : World) : Calls Try.prog 179 [.int .i64 a, .int .i64 b].toArray w fun e w' => e = .returned (.int .i64 (wd (a + b))) ∧ Ext w w' := by
  refine enter Try.func179 rfl Try.ntmps179 rfl (Cls.start w) ?_
  (simp only [argEnv, Nat.zero_add, Nat.reduceAdd])
  apply W.sr
  apply oas; rfl; rfl
  apply OL.nsr
  apply omv; rfl; rfl
  apply omv; rfl; rfl
  apply obn; rfl; rfl; rfl; apply Bin.add
  (((first | (with_reducible apply OL.op) | (with_reducible apply QL.op)); (exact Guard.au); rfl; rfl); (exact Pev.call rfl (by exact Args.au) (fun _ w2 hw2 => (wrap_calls _ w2).mono (fun e w3 h => ⟨h.1, hw2.ext h.2⟩))))
  apply oas; rfl; rfl
  apply OL.nx
  apply W.ret
  ((with_reducible apply At.fin1); rfl; rfl; intro w' hw')
  exact ⟨by rw [wd_wrap], by (exact hw'.fr)⟩
theorem sub_calls (a b : Int) (w : World) : Calls Try.prog 180 [.int .i64 a, .int .i64 b].toArray w fun e w' => e = .returned (.int .i64 (wd (a - b))) ∧ Ext w w' := by
  refine enter Try.func180 rfl Try.ntmps180 rfl (Cls.start w) ?_
  (simp only [argEnv, Nat.zero_add, Nat.reduceAdd])
  apply W.sr
  apply oas; rfl; rfl
  apply OL.nsr
  apply omv; rfl; rfl
  apply omv; rfl; rfl
  apply obn; rfl; rfl; rfl; apply Bin.sub
  (((first | (with_reducible apply OL.op) | (with_reducible apply QL.op)); (exact Guard.au); rfl; rfl); (exact Pev.call rfl (by exact Args.au) (fun _ w2 hw2 => (wrap_calls _ w2).mono (fun e w3 h => ⟨h.1, hw2.ext h.2⟩))))
  apply oas; rfl; rfl
  apply OL.nx
  apply W.ret
  ((with_reducible apply At.fin1); rfl; rfl; intro w' hw')
  exact ⟨by rw [wd_wrap], by (exact hw'.fr)⟩
theorem mul_calls (a b : Int) (w : World) : Calls Try.prog 181 [.int .i64 a, .int .i64 b].toArray w fun e w' => e = .returned (.int .i64 (wd (a * b))) ∧ Ext w w' := by
  refine enter Try.func181 rfl Try.ntmps181 rfl (Cls.start w) ?_
  (simp only [argEnv, Nat.zero_add, Nat.reduceAdd])
  apply W.sr
  apply oas; rfl; rfl
  apply OL.nsr
  apply omv; rfl; rfl
  (((first | (with_reducible apply OL.op) | (with_reducible apply QL.op)); (exact Guard.au); rfl; rfl); (exact Pev.call rfl (by exact Args.au) (fun _ w2 hw2 => (wrap_calls _ w2).mono (fun e w3 h => ⟨h.1, hw2.ext h.2⟩))))
  apply omv; rfl; rfl
  (((first | (with_reducible apply OL.op) | (with_reducible apply QL.op)); (exact Guard.au); rfl; rfl); (exact Pev.call rfl (by exact Args.au) (fun _ w2 hw2 => (wrap_calls _ w2).mono (fun e w3 h => ⟨h.1, hw2.ext h.2⟩))))
  apply obn; rfl; rfl; rfl; apply Bin.mul
  (((first | (with_reducible apply OL.op) | (with_reducible apply QL.op)); (exact Guard.au); rfl; rfl); (exact Pev.call rfl (by exact Args.au) (fun _ w2 hw2 => (wrap_calls _ w2).mono (fun e w3 h => ⟨h.1, hw2.ext h.2⟩))))
  apply oas; rfl; rfl
  apply OL.nx
  apply W.ret
  ((with_reducible apply At.fin1); rfl; rfl; intro w' hw')
  exact ⟨by rw [wd_wrap, wd_mul], by (exact hw'.fr)⟩
theorem div_calls (a b : Int) (ha : -1073741824 ≤ a ∧ a ≤ 1073741823) (hb : -1073741824 ≤ b ∧ b ≤ 1073741823) (h0 : b ≠ 0) (w : World) : Calls Try.prog 183 [.int .i64 a, .int .i64 b].toArray w fun e w' => e = .returned (.tuple #[.int .i64 (wd (a.tdiv b)), .int .i64 0]) ∧ Ext w w' := by
  have e1 := wd_id ha
  have e2 := wd_id hb
  have hq := tdiv_bd (b := b) ha
  refine enter Try.func183 rfl Try.ntmps183 rfl (Cls.start w) ?_
  (simp only [argEnv, Nat.zero_add, Nat.reduceAdd])
  apply W.sr
  apply oas; rfl; rfl
  apply oas; rfl; rfl
  apply OL.nx
  apply W.seq
  apply W.sr
  apply omv; rfl; rfl
  (((first | (with_reducible apply OL.op) | (with_reducible apply QL.op)); (exact Guard.au); rfl; rfl); (exact Pev.call (v := .int .i64 b) rfl (by exact Args.au) (fun _ w2 hw2 => (wrap_calls b w2).mono (fun e w3 h => ⟨by rw [h.1, e2], hw2.ext h.2⟩))))
  apply obn; rfl; rfl; rfl; apply Bin.eql
  apply OL.nx
  refine W.cond rfl (fun h => by simp at h; exact absurd h h0) (fun _ => ?_)
  apply W.sk
  apply W.sr
  apply omv; rfl; rfl
  (((first | (with_reducible apply OL.op) | (with_reducible apply QL.op)); (exact Guard.au); rfl; rfl); (exact Pev.call (v := .int .i64 a) rfl (by exact Args.au) (fun _ w2 hw2 => (wrap_calls a w2).mono (fun e w3 h => ⟨by rw [h.1, e1], hw2.ext h.2⟩))))
  apply omv; rfl; rfl
  (((first | (with_reducible apply OL.op) | (with_reducible apply QL.op)); (exact Guard.au); rfl; rfl); (exact Pev.call (v := .int .i64 b) rfl (by exact Args.au) (fun _ w2 hw2 => (wrap_calls b w2).mono (fun e w3 h => ⟨by rw [h.1, e2], hw2.ext h.2⟩))))
  apply obn; rfl; rfl; rfl; apply Bin.quo; omega
  (((first | (with_reducible apply OL.op) | (with_reducible apply QL.op)); (exact Guard.au); rfl; rfl); (exact Pev.call rfl (by exact Args.au) (fun _ w2 hw2 => (wrap_calls _ w2).mono (fun e w3 h => ⟨h.1, hw2.ext h.2⟩))))
  apply oas; rfl; rfl
  apply oas; rfl; rfl
  apply OL.nx
  apply W.ret
  ((with_reducible apply At.fin2); rfl; rfl; rfl; intro w' hw')
  exact ⟨by rw [wd_wrap], by (exact hw'.fr)⟩
theorem mod_calls (a b : Int) (ha : -1073741824 ≤ a ∧ a ≤ 1073741823) (hb : -1073741824 ≤ b ∧ b ≤ 1073741823) (h0 : b ≠ 0) (w : World) : Calls Try.prog 184 [.int .i64 a, .int .i64 b].toArray w fun e w' => e = .returned (.tuple #[.int .i64 (a.tmod b), .int .i64 0]) ∧ Ext w w' := by
  have e1 := wd_id ha
  have e2 := wd_id hb
  have hq := tm_bd ha hb h0
  refine enter Try.func184 rfl Try.ntmps184 rfl (Cls.start w) ?_
  (simp only [argEnv, Nat.zero_add, Nat.reduceAdd])
  apply W.sr
  apply oas; rfl; rfl
  apply oas; rfl; rfl
  apply OL.nx
  apply W.seq
  apply W.sr
  apply omv; rfl; rfl
  (((first | (with_reducible apply OL.op) | (with_reducible apply QL.op)); (exact Guard.au); rfl; rfl); (exact Pev.call (v := .int .i64 b) rfl (by exact Args.au) (fun _ w2 hw2 => (wrap_calls b w2).mono (fun e w3 h => ⟨by rw [h.1, e2], hw2.ext h.2⟩))))
  apply obn; rfl; rfl; rfl; apply Bin.eql
  apply OL.nx
  refine W.cond rfl (fun h => by simp at h; exact absurd h h0) (fun _ => ?_)
  apply W.sk
  apply W.sr
  apply omv; rfl; rfl
  (((first | (with_reducible apply OL.op) | (with_reducible apply QL.op)); (exact Guard.au); rfl; rfl); (exact Pev.call (v := .int .i64 a) rfl (by exact Args.au) (fun _ w2 hw2 => (wrap_calls a w2).mono (fun e w3 h => ⟨by rw [h.1, e1], hw2.ext h.2⟩))))
  apply omv; rfl; rfl
  (((first | (with_reducible apply OL.op) | (with_reducible apply QL.op)); (exact Guard.au); rfl; rfl); (exact Pev.call (v := .int .i64 b) rfl (by exact Args.au) (fun _ w2 hw2 => (wrap_calls b w2).mono (fun e w3 h => ⟨by rw [h.1, e2], hw2.ext h.2⟩))))
  apply obn; rfl; rfl; rfl; apply Bin.rem; omega
  apply oas; rfl; rfl
  apply oas; rfl; rfl
  apply OL.nx
  apply W.ret
  ((with_reducible apply At.fin2); rfl; rfl; rfl; intro w' hw')
  exact ⟨rfl, by (exact hw'.fr)⟩
theorem wordOf_calls (n : Int) (w : World) : Calls Try.prog 166 [.int .i64 n].toArray w fun e w' => e = .returned (.agg #[.int .i64 0, .int .i64 n, .slice none 0 0, .pointer none]) ∧ Ext w w' := by
  refine enter Try.func166 rfl Try.ntmps166 rfl (Cls.start w) ?_
  (simp only [argEnv, Nat.zero_add, Nat.reduceAdd])
  apply W.sr
  apply OL.alloc; rfl; rfl; exact CellsL.agg; (intro bk hbk; simp only [AllLe, and_true] at hbk)
  apply OL.nsr
  apply omv; rfl; rfl
  apply oop; rfl; apply Pev.build; rfl; exact CellsL.agg; rfl; exact Fill.au; rfl
  apply OL.storeB; rfl; rfl; exact CellsL.agg; rfl; rfl; rfl; exact Swap.au; exact Put.au
  apply OL.nx
  apply W.ret
  exact At.finC (b := bk) (cs := [.int .i64 0, .int .i64 n, .slice none 0 0, .pointer none]) rfl rfl (by exact mau) rfl rfl (fun w' hw' => ⟨rfl, hw'.toExt (by exact mau) (fun k hk => NotOwned.blk (by omega) NotOwned.nil)⟩)
theorem truth_calls (b : Bool) (w : World) : Calls Try.prog 182 [.bool b].toArray w fun e w' => e = .returned (.agg #[.int .i64 0, .int .i64 (b2i b), .slice none 0 0, .pointer none]) ∧ Ext w w' := by
  refine enter Try.func182 rfl Try.ntmps182 rfl (Cls.start w) ?_
  (simp only [argEnv, Nat.zero_add, Nat.reduceAdd])
  apply W.sr
  apply OL.alloc; rfl; rfl; exact CellsL.agg; (intro bk hbk; simp only [AllLe, and_true] at hbk)
  apply OL.nx
  apply W.seq
  apply W.sr
  apply omv; rfl; rfl
  apply OL.nx
  cases b with
  | true =>
    refine W.cond rfl (fun _ => ?_) (fun h => by cases h)
    apply W.sr
    (((first | (with_reducible apply OL.op) | (with_reducible apply QL.op)); (exact Guard.au); rfl; rfl); (exact Pev.call rfl (by exact Args.au) (fun _ w2 hw2 => (wordOf_calls _ w2).mono (fun e w3 h => ⟨h.1, hw2.ext h.2⟩))))
    apply OL.storeB; rfl; rfl; exact CellsL.agg; rfl; rfl; rfl; exact Swap.au; exact Put.au
    apply OL.nx
    refine W.rt ?_
    exact At.finC (b := bk) (cs := [.int .i64 0, .int .i64 1, .slice none 0 0, .pointer none]) rfl rfl (by exact mau) rfl rfl (fun w' hw' => ⟨rfl, hw'.toExt (by exact mau) (fun k hk => NotOwned.blk (by omega) NotOwned.nil)⟩)
  | false =>
    refine W.cond rfl (fun h => by cases h) (fun _ => ?_)
    apply W.sk
    apply W.sr
    (((first | (with_reducible apply OL.op) | (with_reducible apply QL.op)); (exact Guard.au); rfl; rfl); (exact Pev.call rfl (by exact Args.au) (fun _ w2 hw2 => (wordOf_calls _ w2).mono (fun e w3 h => ⟨h.1, hw2.ext h.2⟩))))
    apply OL.storeB; rfl; rfl; exact CellsL.agg; rfl; rfl; rfl; exact Swap.au; exact Put.au
    apply OL.nx
    apply W.ret
    exact At.finC (b := bk) (cs := [.int .i64 0, .int .i64 0, .slice none 0 0, .pointer none]) rfl rfl (by exact mau) rfl rfl (fun w' hw' => ⟨rfl, hw'.toExt (by exact mau) (fun k hk => NotOwned.blk (by omega) NotOwned.nil)⟩)
theorem all_calls (vs : List PV) (q : Option Addr) (cap : Nat) (kd : Int) (w : World) (hl : vs.length ≤ 1000000) (hA : Arr (pvR pF) w (low w) (us vs) q) :
    Calls Try.prog 167 [.slice q vs.length cap, .int .i64 kd].toArray w fun e w' => e = .returned (.bool (vs.all fun p => decide (p.k = kd))) ∧ Ext w w' := by
  refine enter Try.func167 rfl Try.ntmps167 rfl (Cls.start w) ?_
  (simp only [argEnv, Nat.zero_add, Nat.reduceAdd])
  apply W.sr
  apply oas; rfl; rfl
  apply OL.nx
  apply W.seq
  apply W.sr
  apply omv; rfl; rfl
  apply oop; rfl; apply Pev.len_slice; rfl; exact yes; rfl
  apply omv; rfl; rfl
  apply OL.nx
  apply W.block
  refine W.loop (G := Nat) (fun i => i ≤ vs.length ∧ (vs.all fun p => decide (p.k = kd)) = (vs.drop i).all fun p => decide (p.k = kd)) (fun i => vs.length - i)
    (fun i => [(1, true, .int .i64 kd), (7, true, .slice q vs.length cap), (8, true, .int .i64 (vs.length : Int)), (9, true, .int .i64 (i : Int))])
    (fun _ => Cls [] [w]) 0 ⟨by omega, rfl⟩ (by exact Sub.au) (fun w' hw' => hw') ?_
  rintro i ⟨hi, hrest⟩
  apply W.sr
  apply obn; rfl; rfl; rfl; apply Bin.lss
  apply OL.nx
  apply W.seq
  (refine W.cnd (fun hlt => ?_) (fun hlt => ?_)) <;> (try (exfalso; first | omega | exact hlt trivial | contradiction))
  · have hil : i < vs.length := by omega
    obtain ⟨p, hp⟩ : ∃ p, vs[i]? = some p := ⟨_, List.getElem?_eq_getElem hil⟩
    obtain ⟨a, hqa, hab, hcell, hok⟩ := hA.pv hp
    have hab : a.block < w.heap.size := hab
    have hcell : CellsAt w (a.add (i * 4)) (pC p) := hcell
    have hdr : vs.drop i = p :: vs.drop (i + 1) := by
      obtain ⟨h1, h2⟩ := List.getElem?_eq_some_iff.1 hp
      rw [List.drop_eq_getElem_cons h1, h2]
    rw [hdr, List.all_cons] at hrest
    rw [hqa]
    apply W.sk
    apply W.sb
    apply W.sr
    apply oop; rfl; apply Pev.idx; rfl; exact yes; rfl; exact yes; rfl; rfl; intro hcond; omega
    apply oop; rfl; apply Pev.load_keptA; rfl; exact yes; exact .head _; rfl; intro hcond; assumption; rfl; intro hcond; (rw [add_block]; assumption); intro hcond; exact NotOwned.au
    apply OL.alloc; rfl; rfl; exact CellsL.agg; (intro bk hbk; simp only [AllLe, and_true] at hbk)
    apply OL.storeB; rfl; rfl; exact CellsL.agg; rfl; rfl; rfl; exact Swap.au; exact Put.au
    apply OL.nsr
    apply ofa; rfl; rfl; rfl
    apply old; rfl; rfl; exact .head _; rfl; rfl
    apply omv; rfl; rfl
    apply obn; rfl; rfl; rfl; apply Bin.neq
    apply OL.nx
    revert bk
    intro b6 hb6x
    have hb6 : w.heap.size ≤ b6 := by first | exact hb6x | exact hb6x.1
    by_cases hk : p.k = kd
    · refine W.cond rfl (fun h => by simp [hk] at h) (fun _ => ?_)
      rw [decide_eq_true hk, Bool.true_and] at hrest
      apply W.skip
      with_reducible apply At.in_normal
      with_reducible apply At.next
      apply W.reg
      apply obn; rfl; rfl; rfl; apply Bin.add_in; omega
      apply omv; rfl; rfl
      apply OL.nil
      exact At.again (i + 1) ⟨by omega, hrest⟩ (by omega) (by exact Sub.au) (fun w' hw' => hw'.thin (.any (fun k hk => by rw [show k = b6 from hk]; exact ⟨hb6, trivial⟩) Thin.nil))
    · refine W.cond rfl (fun _ => ?_) (fun h => by simp at h; exact absurd h hk)
      rw [decide_eq_false hk, Bool.false_and] at hrest
      apply W.sr
      apply oas; rfl; rfl
      apply OL.nx
      refine W.rt ?_
      ((with_reducible apply At.fin1); rfl; rfl; intro w' hw')
      exact ⟨by rw [hrest], hw'.toExt (by exact mau) (fun k hk => NotOwned.blk (by omega) NotOwned.nil)⟩
  · rw [List.drop_eq_nil_of_le (by omega), List.all_nil] at hrest
    refine W.xt ?_
    with_reducible apply At.next
    apply W.sr
    apply oas; rfl; rfl
    apply OL.nx
    apply W.ret
    ((with_reducible apply At.fin1); rfl; rfl; intro w' hw')
    exact ⟨by rw [hrest], by (exact hw'.fr)⟩
def binA (op a b : Int) : PV × Int := if (op = 4 ∨ op = 5) ∧ b = 0 then (zP, 1) else (pw (binV op a b), 0)
theorem binary_calls (op a b : Int) (hop : 1 ≤ op ∧ op ≤ 7) (hab : op = 4 ∨ op = 5 → (-1073741824 ≤ a ∧ a ≤ 1073741823) ∧ (-1073741824 ≤ b ∧ b ≤ 1073741823)) (w : World) :
    Calls Try.prog 168 [.int .i64 op, .int .i64 a, .int .i64 b].toArray w fun e w' => e = .returned (.tuple #[.agg (pC (binA op a b).1).toArray, .int .i64 (binA op a b).2]) ∧ Ext w w' := by
  refine enter Try.func168 rfl Try.ntmps168 rfl (Cls.start w) ?_
  (simp only [argEnv, Nat.zero_add, Nat.reduceAdd])
  apply W.sr
  apply OL.alloc; rfl; rfl; exact CellsL.agg; (intro bk hbk; simp only [AllLe, and_true] at hbk)
  apply oas; rfl; rfl
  apply OL.nx
  apply W.seq
  apply W.sr
  apply omv; rfl; rfl
  apply OL.nx
  apply W.block
  apply W.sr
  apply obn; rfl; rfl; rfl; apply Bin.eql
  apply oas; rfl; rfl
  apply OL.nx
  revert bk
  intro b6 hb6x
  have hb6 : w.heap.size ≤ b6 := by first | exact hb6x | exact hb6x.1
  have hfin : ∀ v, binV op a b = v → ¬ ((op = 4 ∨ op = 5) ∧ b = 0) → Ending.returned (.tuple #[.agg #[Value.int .i64 0, .int .i64 v, .slice none 0 0, .pointer none], .int .i64 0]) = .returned (.tuple #[.agg (pC (binA op a b).1).toArray, .int .i64 (binA op a b).2]) := by
    intro v hv h
    unfold binA
    rw [if_neg h, hv]
    rfl
  skip
  (refine W.cnd (fun s1 => ?_) (fun s1 => ?_)) <;> (try (exfalso; first | omega | exact s1 trivial | contradiction))
  · apply W.sr
    apply omv; rfl; rfl
    apply omv; rfl; rfl
    (((first | (with_reducible apply OL.op) | (with_reducible apply QL.op)); (exact Guard.au); rfl; rfl); (exact Pev.call rfl (by exact Args.au) (fun _ w2 hw2 => (add_calls a b w2).mono (fun e w3 h => ⟨h.1, hw2.ext h.2⟩))))
    skip
    (((first | (with_reducible apply OL.op) | (with_reducible apply QL.op)); (exact Guard.au); rfl; rfl); (exact Pev.call rfl (by exact Args.au) (fun _ w2 hw2 => (wordOf_calls _ w2).mono (fun e w3 h => ⟨h.1, hw2.ext h.2⟩))))
    apply OL.storeB; rfl; rfl; exact CellsL.agg; rfl; rfl; rfl; exact Swap.au; exact Put.au
    apply oas; rfl; rfl
    apply OL.nx
    refine W.rt ?_
    exact At.finCT (b := b6) (cs := [.int .i64 0, .int .i64 (wd (a + b)), .slice none 0 0, .pointer none]) rfl rfl (by exact mau) rfl rfl rfl (fun w' hw' => ⟨hfin _ (show binV op a b = wd (a + b) by unfold binV; simp [*]) (by omega), hw'.toExt (by exact mau) (fun k hk => NotOwned.blk (by omega) NotOwned.nil)⟩)
  apply W.sr
  apply obn; rfl; rfl; rfl; apply Bin.eql
  apply oas; rfl; rfl
  apply OL.nx
  (refine W.cnd (fun s2 => ?_) (fun s2 => ?_)) <;> (try (exfalso; first | omega | exact s2 trivial | contradiction))
  · apply W.sr
    apply omv; rfl; rfl
    apply omv; rfl; rfl
    (((first | (with_reducible apply OL.op) | (with_reducible apply QL.op)); (exact Guard.au); rfl; rfl); (exact Pev.call rfl (by exact Args.au) (fun _ w2 hw2 => (sub_calls a b w2).mono (fun e w3 h => ⟨h.1, hw2.ext h.2⟩))))
    skip
    (((first | (with_reducible apply OL.op) | (with_reducible apply QL.op)); (exact Guard.au); rfl; rfl); (exact Pev.call rfl (by exact Args.au) (fun _ w2 hw2 => (wordOf_calls _ w2).mono (fun e w3 h => ⟨h.1, hw2.ext h.2⟩))))
    apply OL.storeB; rfl; rfl; exact CellsL.agg; rfl; rfl; rfl; exact Swap.au; exact Put.au
    apply oas; rfl; rfl
    apply OL.nx
    refine W.rt ?_
    exact At.finCT (b := b6) (cs := [.int .i64 0, .int .i64 (wd (a - b)), .slice none 0 0, .pointer none]) rfl rfl (by exact mau) rfl rfl rfl (fun w' hw' => ⟨hfin _ (show binV op a b = wd (a - b) by unfold binV; simp [*]) (by omega), hw'.toExt (by exact mau) (fun k hk => NotOwned.blk (by omega) NotOwned.nil)⟩)
  apply W.sr
  apply obn; rfl; rfl; rfl; apply Bin.eql
  apply oas; rfl; rfl
  apply OL.nx
  (refine W.cnd (fun s3 => ?_) (fun s3 => ?_)) <;> (try (exfalso; first | omega | exact s3 trivial | contradiction))
  · apply W.sr
    apply omv; rfl; rfl
    apply omv; rfl; rfl
    (((first | (with_reducible apply OL.op) | (with_reducible apply QL.op)); (exact Guard.au); rfl; rfl); (exact Pev.call rfl (by exact Args.au) (fun _ w2 hw2 => (mul_calls a b w2).mono (fun e w3 h => ⟨h.1, hw2.ext h.2⟩))))
    skip
    (((first | (with_reducible apply OL.op) | (with_reducible apply QL.op)); (exact Guard.au); rfl; rfl); (exact Pev.call rfl (by exact Args.au) (fun _ w2 hw2 => (wordOf_calls _ w2).mono (fun e w3 h => ⟨h.1, hw2.ext h.2⟩))))
    apply OL.storeB; rfl; rfl; exact CellsL.agg; rfl; rfl; rfl; exact Swap.au; exact Put.au
    apply oas; rfl; rfl
    apply OL.nx
    refine W.rt ?_
    exact At.finCT (b := b6) (cs := [.int .i64 0, .int .i64 (wd (a * b)), .slice none 0 0, .pointer none]) rfl rfl (by exact mau) rfl rfl rfl (fun w' hw' => ⟨hfin _ (show binV op a b = wd (a * b) by unfold binV; simp [*]) (by omega), hw'.toExt (by exact mau) (fun k hk => NotOwned.blk (by omega) NotOwned.nil)⟩)
  apply W.sr
  apply obn; rfl; rfl; rfl; apply Bin.eql
  apply oas; rfl; rfl
  apply OL.nx
  (refine W.cnd (fun s4 => ?_) (fun s4 => ?_)) <;> (try (exfalso; first | omega | exact s4 trivial | contradiction))
  · apply W.sr
    apply omv; rfl; rfl
    apply omv; rfl; rfl
    apply obn; rfl; rfl; rfl; apply Bin.lss
    (((first | (with_reducible apply OL.op) | (with_reducible apply QL.op)); (exact Guard.au); rfl; rfl); (exact Pev.call rfl (by exact Args.au) (fun _ w2 hw2 => (truth_calls _ w2).mono (fun e w3 h => ⟨h.1, hw2.ext h.2⟩))))
    apply OL.storeB; rfl; rfl; exact CellsL.agg; rfl; rfl; rfl; exact Swap.au; exact Put.au
    apply oas; rfl; rfl
    apply OL.nx
    refine W.rt ?_
    exact At.finCT (b := b6) (cs := [.int .i64 0, .int .i64 (b2i (decide (a < b))), .slice none 0 0, .pointer none]) rfl rfl (by exact mau) rfl rfl rfl (fun w' hw' => ⟨hfin _ (show binV op a b = b2i (decide (a < b)) by unfold binV; simp [*]) (by omega), hw'.toExt (by exact mau) (fun k hk => NotOwned.blk (by omega) NotOwned.nil)⟩)
  apply W.sr
  apply obn; rfl; rfl; rfl; apply Bin.eql
  apply oas; rfl; rfl
  apply OL.nx
  (refine W.cnd (fun s5 => ?_) (fun s5 => ?_)) <;> (try (exfalso; first | omega | exact s5 trivial | contradiction))
  · apply W.sr
    apply omv; rfl; rfl
    apply omv; rfl; rfl
    apply obn; rfl; rfl; rfl; apply Bin.eql
    (((first | (with_reducible apply OL.op) | (with_reducible apply QL.op)); (exact Guard.au); rfl; rfl); (exact Pev.call rfl (by exact Args.au) (fun _ w2 hw2 => (truth_calls _ w2).mono (fun e w3 h => ⟨h.1, hw2.ext h.2⟩))))
    apply OL.storeB; rfl; rfl; exact CellsL.agg; rfl; rfl; rfl; exact Swap.au; exact Put.au
    apply oas; rfl; rfl
    apply OL.nx
    refine W.rt ?_
    exact At.finCT (b := b6) (cs := [.int .i64 0, .int .i64 (b2i (decide (a = b))), .slice none 0 0, .pointer none]) rfl rfl (by exact mau) rfl rfl rfl (fun w' hw' => ⟨hfin _ (show binV op a b = b2i (decide (a = b)) by unfold binV; simp [*]) (by omega), hw'.toExt (by exact mau) (fun k hk => NotOwned.blk (by omega) NotOwned.nil)⟩)
  apply W.skip
  with_reducible apply At.in_normal
  with_reducible apply At.next
  apply W.seq
  apply W.sr
  apply omv; rfl; rfl
  apply obn; rfl; rfl; rfl; apply Bin.eql
  apply OL.nx
  by_cases hb0 : b = 0
  · refine W.cond rfl (fun _ => ?_) (fun h => by simp at h; exact absurd hb0 h)
    have hz : binA op a b = (zP, 1) := by unfold binA; rw [if_pos ⟨by omega, hb0⟩]
    apply W.sr
    apply oop; rfl; apply Pev.build; rfl; exact CellsL.agg; rfl; exact Fill.au; rfl
    apply OL.storeB; rfl; rfl; exact CellsL.agg; rfl; rfl; rfl; exact Swap.au; exact Put.au
    apply oas; rfl; rfl
    apply OL.nx
    refine W.rt ?_
    exact At.finCT (b := b6) (cs := [.int .i64 0, .int .i64 0, .slice none 0 0, .pointer none]) rfl rfl (by exact mau) rfl rfl rfl (fun w' hw' => ⟨by rw [hz]; rfl, hw'.toExt (by exact mau) (fun k hk => NotOwned.blk (by omega) NotOwned.nil)⟩)
  refine W.cond rfl (fun h => by simp at h; exact absurd h hb0) (fun _ => ?_)
  obtain ⟨ha, hb⟩ := hab (by omega)
  apply W.sk
  apply W.seq
  apply W.sr
  apply omv; rfl; rfl
  apply obn; rfl; rfl; rfl; apply Bin.eql
  apply OL.nx
  (refine W.cnd (fun h4 => ?_) (fun h4 => ?_)) <;> (try (exfalso; first | omega | exact h4 trivial | contradiction))
  · apply W.sr
    apply omv; rfl; rfl
    apply omv; rfl; rfl
    (((first | (with_reducible apply OL.op) | (with_reducible apply QL.op)); (exact Guard.au); rfl; rfl); (exact Pev.call rfl (by exact Args.au) (fun _ w2 hw2 => (div_calls a b ha hb hb0 w2).mono (fun e w3 h => ⟨h.1, hw2.ext h.2⟩))))
    apply omv; rfl; rfl
    apply oex; rfl; rfl; rfl
    apply oex; rfl; rfl; rfl
    apply oas; rfl; rfl
    apply oas; rfl; rfl
    apply OL.nsr
    apply omv; rfl; rfl
    (((first | (with_reducible apply OL.op) | (with_reducible apply QL.op)); (exact Guard.au); rfl; rfl); (exact Pev.call rfl (by exact Args.au) (fun _ w2 hw2 => (wordOf_calls _ w2).mono (fun e w3 h => ⟨h.1, hw2.ext h.2⟩))))
    apply OL.storeB; rfl; rfl; exact CellsL.agg; rfl; rfl; rfl; exact Swap.au; exact Put.au
    apply oas; rfl; rfl
    apply OL.nx
    refine W.rt ?_
    exact At.finCT (b := b6) (cs := [.int .i64 0, .int .i64 (wd (a.tdiv b)), .slice none 0 0, .pointer none]) rfl rfl (by exact mau) rfl rfl rfl (fun w' hw' => ⟨hfin _ (by unfold binV; simp [*]) (fun h => hb0 h.2), hw'.toExt (by exact mau) (fun k hk => NotOwned.blk (by omega) NotOwned.nil)⟩)
  · have h5 : op = 5 := by omega
    apply W.sk
    apply W.sr
    apply omv; rfl; rfl
    apply omv; rfl; rfl
    (((first | (with_reducible apply OL.op) | (with_reducible apply QL.op)); (exact Guard.au); rfl; rfl); (exact Pev.call rfl (by exact Args.au) (fun _ w2 hw2 => (mod_calls a b ha hb hb0 w2).mono (fun e w3 h => ⟨h.1, hw2.ext h.2⟩))))
    apply omv; rfl; rfl
    apply oex; rfl; rfl; rfl
    apply oex; rfl; rfl; rfl
    apply oas; rfl; rfl
    apply oas; rfl; rfl
    apply OL.nsr
    apply omv; rfl; rfl
    (((first | (with_reducible apply OL.op) | (with_reducible apply QL.op)); (exact Guard.au); rfl; rfl); (exact Pev.call rfl (by exact Args.au) (fun _ w2 hw2 => (wordOf_calls _ w2).mono (fun e w3 h => ⟨h.1, hw2.ext h.2⟩))))
    apply OL.storeB; rfl; rfl; exact CellsL.agg; rfl; rfl; rfl; exact Swap.au; exact Put.au
    apply oas; rfl; rfl
    apply OL.nx
    apply W.ret
    exact At.finCT (b := b6) (cs := [.int .i64 0, .int .i64 (a.tmod b), .slice none 0 0, .pointer none]) rfl rfl (by exact mau) rfl rfl rfl (fun w' hw' => ⟨hfin _ (by unfold binV; simp [*]) (fun h => hb0 h.2), hw'.toExt (by exact mau) (fun k hk => NotOwned.blk (by omega) NotOwned.nil)⟩)
end Go.Proofs.Ytehelljmaiophaa.ss
