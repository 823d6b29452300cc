/- Texts of the proof of LoopsFinds, part 5: rules of a calculus for walking, plain laws, and walks of the functions that the law reaches. No condition. -/
import Derived.Test.YtehelljmaiophaaLoopsFinds4
/- The walks of ContainsFunc at ints, of dom's isBlock, Tree, Dominates and Closest. Conditions: none. -/
namespace Go.Ss
set_option linter.unusedVariables false
set_option linter.unusedSimpArgs false
open Go.Eng Go.RowKit
set_option linter.unusedVariables false
set_option linter.unusedSimpArgs false
def idxD (f : Int → Bool) : List Int → Nat → Int
  | [], _ => -1
  | p :: r, i => if f p = true then (i : Int) else idxD f r (i + 1)
theorem idxD_drop {f : Int → Bool} {l : List Int} {i k : Nat} {p : Int} (h : l[i]? = some p) : idxD f (l.drop i) k = if f p = true then (k : Int) else idxD f (l.drop (i + 1)) (k + 1) := by
  obtain ⟨h1, rfl⟩ := List.getElem?_eq_some_iff.1 h
  rw [List.drop_eq_getElem_cons h1, idxD]
theorem idxD_any (f : Int → Bool) : ∀ (ps : List Int) (i : Nat), decide (0 ≤ idxD f ps i) = ps.any f
  | [], i => rfl
  | p :: r, i => by
    rw [idxD, List.any_cons]
    split
    · rename_i h
      rw [h, Bool.true_or]
      simp
    · rename_i h
      rw [idxD_any f r (i + 1), Bool.eq_false_iff.2 h, Bool.false_or]
theorem CellsAt.ext {w w' : World} {b : Nat} {l : List Value} (h : CellsAt w ⟨b, 0, none⟩ l) (hb : b < w.heap.size) (hx : Ext w w') : CellsAt w' ⟨b, 0, none⟩ l := fun j v hj => by
  have h1 := h j v hj
  have h2 := hx.block b hb id
  rw [add_mid] at h1 ⊢
  unfold World.cell? at h1 ⊢
  rw [h2]
  exact h1
def inB (n : Nat) (a b : Int) : Bool := !([a, b].any fun p => decide (p < 0) || decide ((n : Int) ≤ p))
theorem inB_true {n : Nat} {a b : Int} (h : inB n a b = true) : ∃ x z : Nat, a = (x : Int) ∧ b = (z : Int) ∧ x < n ∧ z < n := by
  have h1 : (0 ≤ a ∧ a < n) ∧ 0 ≤ b ∧ b < n := by simpa [inB] using h
  exact ⟨a.toNat, b.toNat, by omega, by omega, by omega, by omega⟩
end Go.Ss
namespace Go.Proofs.Ytehelljmaiophaa.ss
set_option linter.unusedVariables false
set_option linter.unusedSimpArgs false
set_option maxRecDepth 100000
open Go.Eng Go.RowKit Go.Ss
set_option linter.unusedVariables false
set_option linter.unusedSimpArgs false
theorem ZIndexFunc_calls (q : Option Addr) (cap : Nat) (l : List Int) (f : FuncId) (first caps : List Value) (pr : Int → Bool) (w : World) (hlen : l.length ≤ 9223372036854775807) (h : IntsO w (low w) l q)
    (hf : callable Try.prog f = true) (hp : ∀ p ∈ l, ∀ w', Ext w w' → Calls Try.prog f (first ++ [Value.int .i64 p] ++ caps).toArray w' fun e w'' => e = .returned (.bool (pr p)) ∧ Ext w' w'') :
    Calls Try.prog 116 [.slice q l.length cap, .func (.func f) first.toArray caps.toArray].toArray w fun e w' => e = .returned (.int .i64 (idxD pr l 0)) ∧ Ext w w' := by
  refine enter Try.func116 rfl Try.ntmps116 rfl (Cls.start w) ?_
  (simp only [argEnv, Nat.zero_add, Nat.reduceAdd])
  apply W.sr
  apply oas; rfl; rfl
  apply OL.nx
  apply W.seq
  apply W.sr
  apply omv; rfl; rfl
  apply oop; rfl; apply Pev.len_slice; rfl; exact yes; rfl
  apply omv; rfl; rfl
  apply OL.nx
  apply W.block
  refine W.loop (G := Nat) (fun i => i ≤ l.length ∧ idxD pr (l.drop i) i = idxD pr l 0) (fun i => l.length - i)
    (fun i => [(8, true, .int .i64 (i : Int)), (7, true, .int .i64 (l.length : Int)), (0, true, .slice q l.length cap), (1, true, .func (.func f) first.toArray caps.toArray)])
    (fun i => Cls [] [w]) 0 ⟨by omega, rfl⟩ (by exact Sub.au) (fun w' hw' => hw') ?_
  rintro i ⟨hi, hrest⟩
  apply W.sr
  apply obn; rfl; rfl; rfl; apply Bin.lss
  apply OL.nx
  apply W.seq
  (refine W.cnd (fun hlt => ?_) (fun hlt => ?_)) <;> (try (exfalso; first | omega | exact hlt trivial | contradiction))
  · obtain ⟨a, p, rfl, hab, hu, hcell⟩ := h.get (show i < l.length by omega)
    have hab : a.block < w.heap.size := hab
    have hpu := fun w3 => hp p (List.mem_of_getElem? hu) w3
    rw [idxD_drop hu] at hrest
    apply W.sk
    apply W.sb
    apply W.sr
    apply omv; rfl; rfl
    apply oas; rfl; rfl
    apply OL.nsr
    apply omv; rfl; rfl
    apply omv; rfl; rfl
    apply omv; rfl; rfl
    apply oop; rfl; apply Pev.idx; rfl; exact yes; rfl; exact yes; rfl; rfl; intro hcond; omega
    apply oop; rfl; apply Pev.load_kept; rfl; exact yes; exact .head _; rfl; intro hcond; assumption; intro hcond; (rw [add_block]; assumption); intro hcond; exact NotOwned.au
    (((first | (with_reducible apply OL.op) | (with_reducible apply QL.op)); (exact Guard.au); rfl; rfl); (apply Pev.callv (first := first) (cap := caps)); rfl; ((first | exact fun _ => rfl | exact fun h => h | (intro h; simp_all; done))); (exact hf); (exact Args.au); (exact (fun _ w2 hw2 => (hpu w2 (hw2.toExt (by exact mau) (fun k hk => by exact NotOwned.au))).mono (fun e w3 h => ⟨h.1, hw2.ext h.2⟩))))
    apply OL.nx
    refine W.cond rfl (fun heq => ?_) (fun heq => ?_)
    · rw [if_pos heq] at hrest
      apply W.sr
      apply omv; rfl; rfl
      apply oas; rfl; rfl
      apply OL.nx
      refine W.rt ?_
      ((with_reducible apply At.fin1); rfl; rfl; intro w' hw')
      exact ⟨by rw [hrest], by (exact hw'.fr)⟩
    · rw [if_neg (by simpa using heq)] at hrest
      apply W.skip
      with_reducible apply At.in_normal
      with_reducible apply At.next
      apply W.reg
      apply obn; rfl; rfl; rfl; apply Bin.add_in; omega
      apply omv; rfl; rfl
      apply OL.nil
      exact At.again (i + 1) ⟨by omega, hrest⟩ (by omega) (by exact Sub.au) (fun w' hw' => hw'.thin (by exact Thin.au))
  · rw [List.drop_eq_nil_of_le (by omega), idxD] at hrest
    refine W.xt ?_
    with_reducible apply At.next
    apply W.sr
    apply oas; rfl; rfl
    apply OL.nx
    apply W.ret
    ((with_reducible apply At.fin1); rfl; rfl; intro w' hw')
    exact ⟨by rw [← hrest], by (exact hw'.fr)⟩
theorem ZContainsFunc_calls (q : Option Addr) (cap : Nat) (l : List Int) (f : FuncId) (first caps : List Value) (pr : Int → Bool) (w : World) (hlen : l.length ≤ 9223372036854775807) (h : IntsO w (low w) l q)
    (hf : callable Try.prog f = true) (hp : ∀ p ∈ l, ∀ w', Ext w w' → Calls Try.prog f (first ++ [Value.int .i64 p] ++ caps).toArray w' fun e w'' => e = .returned (.bool (pr p)) ∧ Ext w' w'') :
    Calls Try.prog 75 [.slice q l.length cap, .func (.func f) first.toArray caps.toArray].toArray w fun e w' => e = .returned (.bool (l.any pr)) ∧ Ext w w' := by
  refine enter Try.func75 rfl Try.ntmps75 rfl (Cls.start w) ?_
  (simp only [argEnv, Nat.zero_add, Nat.reduceAdd])
  apply W.sr
  apply oas; rfl; rfl
  apply OL.nsr
  apply omv; rfl; rfl
  apply omv; rfl; rfl
  (((first | (with_reducible apply OL.op) | (with_reducible apply QL.op)); (exact Guard.au); rfl; rfl); (exact Pev.call rfl (by exact Args.au) (fun _ w2 hw2 => (ZIndexFunc_calls q cap l f first caps pr w2 hlen (h.at hw2 (by exact mau) (fun k hk => NotOwned.nil)) hf (fun s hs w3 h3 => hp s hs w3 ((hw2.toExt (s := w) (by exact mau) (fun k hk => by exact NotOwned.au)).trans h3))).mono (fun e w3 h => ⟨h.1, hw2.ext h.2⟩))))
  apply obn; rfl; rfl; rfl; apply Bin.geq
  apply oas; rfl; rfl
  apply OL.nx
  apply W.ret
  ((with_reducible apply At.fin1); rfl; rfl; intro w' hw')
  exact ⟨by rw [← idxD_any pr l 0], by (exact hw'.fr)⟩
theorem isBlock1_calls (p nm : Int) (n cap b : Nat) (q : Option Addr) (w : World) (hc : CellsAt w ⟨b, 0, none⟩ [.int .i64 nm, .slice q n cap]) (hb : b < w.heap.size) :
    Calls Try.prog 128 [.int .i64 p, .pointer (some ⟨b, 0, none⟩)].toArray w fun e w' => e = .returned (.bool (decide (p < 0) || decide ((n : Int) ≤ p))) ∧ Ext w w' := by
  have hc1 : w.cell? ⟨b, 0 + 1, none⟩ = some (.slice q n cap) := hc 1 _ rfl
  refine enter Try.func128 rfl Try.ntmps128 rfl (Cls.start w) ?_
  (simp only [argEnv, Nat.zero_add, Nat.reduceAdd])
  apply W.sr
  apply oas; rfl; rfl
  apply OL.nsr
  apply omv; rfl; rfl
  apply obn; rfl; rfl; rfl; apply Bin.lss
  apply omv; rfl; rfl
  apply ono; rfl; rfl; rfl; apply Pev.move; rfl; exact yes
  apply ono; rfl; rfl; rfl; apply Pev.fld; rfl; exact yes; rfl
  apply ono; rfl; rfl; rfl; apply Pev.load_kept; rfl; exact fun h => h; exact .head _; rfl; intro hcond; assumption; intro hcond; assumption; intro hcond; exact NotOwned.au
  apply ono; rfl; rfl; rfl; apply Pev.len_slice; rfl; exact fun h => h; rfl
  apply ono; rfl; rfl; rfl; apply Pev.bin; rfl; exact fun h => h; rfl; exact fun h => h; intro hcond; apply Bin.geq
  apply oop; rfl; apply Pev.pick_or; rfl; exact yes; rfl; exact fun h => h
  apply oas; rfl; rfl
  apply OL.nx
  apply W.ret
  ((with_reducible apply At.fin1); rfl; rfl; intro w' hw')
  exact ⟨rfl, by (exact hw'.fr)⟩
theorem isBlock_calls (nm : Int) (n cap cap2 : Nat) (q q2 : Option Addr) (l : List Int) (w : World) (hl : l.length ≤ 1000000) (hI : IntsO w (low w) l q2) :
    Calls Try.prog 92 [.agg #[.int .i64 nm, .slice q n cap], .slice q2 l.length cap2].toArray w fun e w' => e = .returned (.bool (!l.any fun p => decide (p < 0) || decide ((n : Int) ≤ p))) ∧ Ext w w' := by
  refine enter Try.func92 rfl Try.ntmps92 rfl (Cls.start w) ?_
  (simp only [argEnv, Nat.zero_add, Nat.reduceAdd])
  apply W.sr
  apply OL.box; rfl; rfl; exact CellsL.agg; (intro bk hbk; simp only [AllLe, and_true] at hbk)
  apply oas; rfl; rfl
  apply OL.nsr
  apply omv; rfl; rfl
  apply oop; rfl; apply Pev.makeFunc; exact Args.au; exact Args.au
  revert bk
  intro b hb
  have hb1 : w.heap.size ≤ b := by first | exact hb | exact hb.1
  refine OL.frzD (C' := fun w0 => Cls [] [w0, w]) (fun w0 hc0 => (hc0.thin (.any (fun k hk => by rw [show k = b from hk]; exact ⟨hb1, trivial⟩) Thin.nil)).note) (fun w0 hc0 => ?_)
  have hb0 : b < w0.heap.size := blk_lt (hc0.item (.head _))
  have hcF : CellsAt w0 ⟨b, 0, none⟩ [.int .i64 nm, .slice q n cap] := fun j v hj => by
    rw [add_mid, blk_cell (hc0.item (.head _)), Nat.zero_add]
    exact hj
  skip
  (((first | (with_reducible apply OL.op) | (with_reducible apply QL.op)); (exact Guard.au); rfl; rfl); (exact Pev.call (v := .bool (l.any fun p => decide (p < 0) || decide ((n : Int) ≤ p))) rfl (by exact Args.au) (fun _ w2 hw2 => (ZContainsFunc_calls q2 cap2 l 128 [] [.pointer (some ⟨b, 0, none⟩)] (fun p => decide (p < 0) || decide ((n : Int) ≤ p)) w2 (by omega) (hI.at hw2 (by exact mau) (fun k hk => NotOwned.nil)) rfl (fun p _ w' hx => isBlock1_calls p nm n cap b q w' (CellsAt.ext hcF hb0 ((hw2.toExt (s := w0) (by exact mau) (fun k hk => NotOwned.nil)).trans hx)) (by have := hx.size; have := (hw2.kp w0 (by exact mau)).size; omega))).mono (fun e w3 h => ⟨h.1, hw2.ext h.2⟩))))
  apply oop; rfl; apply Pev.not; rfl; exact yes
  apply oas; rfl; rfl
  apply OL.nx
  apply W.ret
  ((with_reducible apply At.fin1); rfl; rfl; intro w' hw')
  exact ⟨rfl, by (exact hw'.fr)⟩
theorem DTree_calls (fn : Go.Ss.Fn) (y : FnY) (w : World) (hfn : FnOk w (low w) fn y) :
    Calls Try.prog 45 [.agg (fnC fn y).toArray].toArray w fun e w' => Ext w w' ∧ ((funcE fn ≠ 0 ∧ e = .returned (.tuple #[.slice none 0 0, .int .i64 (funcE fn)])) ∨ (funcE fn = 0 ∧ ∃ bI o, e = .returned (.tuple #[.slice (some ⟨bI, 0, none⟩) fn.blocks.length fn.blocks.length, .int .i64 0]) ∧ IntsO w' (low w') (tabI fn.blocks.length fun k => ovI (o k)) (some ⟨bI, 0, none⟩) ∧ EndR (graphB fn.blocks) (plN (graphB fn.blocks)) o ∧ ∀ a k, Rc (graphB fn.blocks) (-1) k → (An o a k ↔ Dm (graphB fn.blocks) a k))) := by
  have hfn0 := hfn
  obtain ⟨nm, bs⟩ := fn
  obtain ⟨q, cap⟩ := y
  have hbl := hfn.bl
  have hF : ∀ (H : List Eng.Item) (S : List World) (w2 : World), Cls H S w2 → w ∈ S → (∀ k, k < w.heap.size → NotOwned H k) → FnOk w2 (low w2) ⟨nm, bs⟩ ⟨q, cap⟩ := fun H S w2 hw2 hs hno => fnR.mono (hw2.up hs) (fnR.stab (hw2.same hs hno) hfn0)
  have hBu := fun w2 (H : List Eng.Item) (S : List World) hw2 hs hno => dbuild_calls ⟨nm, bs⟩ ⟨q, cap⟩ w2 (hF H S w2 hw2 hs hno)
  obtain ⟨er, her⟩ : ∃ er, funcE ⟨nm, bs⟩ = er := ⟨_, rfl⟩
  obtain ⟨G, hG⟩ : ∃ G, graphB bs = G := ⟨_, rfl⟩
  have hGl : G.length = bs.length := by rw [← hG]; simp [graphB]
  simp only [fnC, her, hG, ← hGl] at hBu ⊢
  refine enter Try.func45 rfl Try.ntmps45 rfl (Cls.start w) ?_
  (simp only [argEnv, Nat.zero_add, Nat.reduceAdd])
  apply W.sr
  apply OL.box; rfl; rfl; exact CellsL.agg; (intro bk hbk; simp only [AllLe, and_true] at hbk)
  apply oas; rfl; rfl
  apply oas; rfl; rfl
  apply OL.nsr
  apply oop; rfl; apply Pev.load_blkA; rfl; exact yes; exact .head _; rfl; exact Take.au
  revert bk
  intro b1 hb1x
  have hb1 : w.heap.size ≤ b1 := by first | exact hb1x | exact hb1x.1
  refine OL.frzD (C' := fun w0 => Cls [] [w0, w]) (fun w0 hc0 => (hc0.thin (.any (fun k hk => by rw [show k = b1 from hk]; exact ⟨hb1, trivial⟩) Thin.nil)).note) (fun w0 hc0 => ?_)
  have hb10 : b1 < w0.heap.size := blk_lt (hc0.item (.head _))
  have hw0 : w.heap.size ≤ w0.heap.size := (hc0.kp w (.head _)).size
  have hcF : CellsAt w0 ⟨b1, 0, none⟩ [.int .i64 nm, .slice q G.length cap] := fun j v hj => by
    rw [add_mid, blk_cell (hc0.item (.head _)), Nat.zero_add]
    exact hj
  by_cases hne : er ≠ 0
  · (((first | (with_reducible apply OL.op) | (with_reducible apply QL.op)); (exact Guard.au); rfl; rfl); (exact Pev.call (v := .tuple #[.agg #[.slice none 0 0, .slice none 0 0], .int .i64 er]) rfl (by exact Args.au) (fun _ w2 hw2 => (hBu w2 _ _ hw2 (by exact mau) (fun k hk => NotOwned.nil)).mono (fun e w3 h => ⟨by rcases h.2 with h2 | h2; exact h2.2; exact absurd h2.1 hne, hw2.ext h.1⟩))))
    apply omv; rfl; rfl
    apply oex; rfl; rfl; rfl
    apply oex; rfl; rfl; rfl
    apply OL.alloc; rfl; rfl; exact CellsL.agg; (intro bk hbk; simp only [AllLe, and_true] at hbk)
    apply OL.storeB; rfl; rfl; exact CellsL.agg; rfl; rfl; rfl; exact Swap.au; exact Put.au
    apply oas; rfl; rfl
    apply OL.nsr
    apply ofa; rfl; rfl; rfl
    apply old; rfl; rfl; exact .head _; rfl; rfl
    apply omv; rfl; rfl
    apply oas; rfl; rfl
    apply oas; rfl; rfl
    apply OL.nx
    apply W.ret
    revert bk
    intro b2 hb2x
    have hb2 : w0.heap.size ≤ b2 := by first | exact hb2x | exact hb2x.1
    skip
    ((with_reducible apply At.fin2); rfl; rfl; rfl; intro w' hw')
    exact ⟨hw'.toExt (by exact mau) (fun k hk => NotOwned.blk (by omega) NotOwned.nil), .inl ⟨hne, rfl⟩⟩
  obtain rfl : er = 0 := Classical.not_not.1 hne
  obtain ⟨h0, h128, hs0⟩ := func_zero her
  simp only at h0 h128 hs0
  have hGE : ∀ l ∈ G, ∀ x ∈ l, 0 ≤ x ∧ x < (G.length : Int) := fun l hl x hx => by
    rw [← hG] at hl
    obtain ⟨b, hb, rfl⟩ := List.mem_map.1 hl
    obtain ⟨e, he, rfl⟩ := List.mem_map.1 hx
    have := shape_edges hs0 b hb e he
    omega
  have hG0 : 0 < G.length := by omega
  have hGn : G.length ≤ 128 := by omega
  have hord := ordOk hGE hG0
  refine OL.callE (α := (Nat × Nat × (Nat → Option Nat)) × World) (fun z => .tuple #[.agg #[.slice (some ⟨z.1.1, 0, none⟩) G.length G.length, .slice (some ⟨z.1.2.1, 0, none⟩) G.length G.length], .int .i64 0]) (fun z => Ext w z.2 ∧ Ext w0 z.2 ∧ IntsO z.2 (low z.2) (tabI G.length fun k => ovI (z.1.2.2 k)) (some ⟨z.1.1, 0, none⟩) ∧ IntsO z.2 (low z.2) (tabI G.length (plc0 G)) (some ⟨z.1.2.1, 0, none⟩) ∧ EndR G (plN G) z.1.2.2 ∧ ∀ a k, Rc G (-1) k → (An z.1.2.2 a k ↔ Dm G a k)) (fun z => Cls [] [z.2, w0, w]) rfl rfl (by exact Args.au) (fun w2 hw2 => (hBu w2 _ _ hw2 (by exact mau) (fun k hk => NotOwned.nil)).mono fun e w3 ⟨h2, h3⟩ => ?_) ?_
  · rcases h3 with ⟨h3, _⟩ | ⟨_, bI, bP, o, h4, h5, h6, h7⟩
    · exact absurd rfl h3
    · have hx := hw2.ext h2
      exact ⟨((bI, bP, o), w3), h4, ⟨hx.toExt (by exact mau) (fun k hk => NotOwned.nil), hx.toExt (by exact mau) (fun k hk => NotOwned.nil), h5.mono (fun k hk => hk.2), h6.mono (fun k hk => hk.2), h7⟩, hx.note⟩
  rintro ⟨⟨bI, bP, o⟩, wB⟩ ⟨hxB, hx0B, hII, hIP, hend, hdm⟩
  simp only at hxB hx0B hII hIP hend hdm ⊢
  have hbIB : bI < wB.heap.size := by
    obtain ⟨a, _, ha, hb, _⟩ := hII.get (i := 0) (by rw [tabI_length]; exact hG0)
    obtain rfl := Option.some.inj ha
    exact hb
  have hbPB : bP < wB.heap.size := by
    obtain ⟨a, _, ha, hb, _⟩ := hIP.get (i := 0) (by rw [tabI_length]; exact hG0)
    obtain rfl := Option.some.inj ha
    exact hb
  have hwB : w0.heap.size ≤ wB.heap.size := hx0B.size
  apply omv; rfl; rfl
  apply oex; rfl; rfl; rfl
  apply oex; rfl; rfl; rfl
  apply OL.alloc; rfl; rfl; exact CellsL.agg; (intro bk hbk; simp only [AllLe, and_true] at hbk)
  apply OL.storeB; rfl; rfl; exact CellsL.agg; rfl; rfl; rfl; exact Swap.au; exact Put.au
  apply oas; rfl; rfl
  apply OL.nsr
  apply ofa; rfl; rfl; rfl
  apply old; rfl; rfl; exact .head _; rfl; rfl
  apply omv; rfl; rfl
  apply oas; rfl; rfl
  apply oas; rfl; rfl
  apply OL.nx
  apply W.ret
  revert bk
  intro b2 hb2x
  have hb2 : wB.heap.size ≤ b2 := by first | exact hb2x | exact hb2x.1
  skip
  ((with_reducible apply At.fin2); rfl; rfl; rfl; intro w' hw')
  exact ⟨hw'.toExt (by exact mau) (fun k hk => NotOwned.blk (by omega) NotOwned.nil), .inr ⟨by trivial, bI, o, rfl, hII.at hw' (by exact mau) (fun k hk => NotOwned.blk (by omega) NotOwned.nil), hend, hdm⟩⟩
theorem DDominates_calls (fn : Go.Ss.Fn) (y : FnY) (a b : Int) (w : World) (hfn : FnOk w (low w) fn y) :
    Calls Try.prog 46 [.agg (fnC fn y).toArray, .int .i64 a, .int .i64 b].toArray w fun e w' => Ext w w' ∧ ((funcE fn ≠ 0 ∧ e = .returned (.tuple #[.bool false, .int .i64 (funcE fn)])) ∨ (funcE fn = 0 ∧ ((inB fn.blocks.length a b = false ∧ e = .returned (.tuple #[.bool false, .int .i64 4])) ∨ ∃ (x z : Nat) (r : Bool), a = (x : Int) ∧ b = (z : Int) ∧ x < fn.blocks.length ∧ z < fn.blocks.length ∧ e = .returned (.tuple #[.bool r, .int .i64 0]) ∧ (r = true ↔ ¬ Rc (graphB fn.blocks) (-1) z ∨ Dm (graphB fn.blocks) x z)))) := by
  have hfn0 := hfn
  obtain ⟨nm, bs⟩ := fn
  obtain ⟨q, cap⟩ := y
  have hbl := hfn.bl
  have hF : ∀ (H : List Eng.Item) (S : List World) (w2 : World), Cls H S w2 → w ∈ S → (∀ k, k < w.heap.size → NotOwned H k) → FnOk w2 (low w2) ⟨nm, bs⟩ ⟨q, cap⟩ := fun H S w2 hw2 hs hno => fnR.mono (hw2.up hs) (fnR.stab (hw2.same hs hno) hfn0)
  have hBu := fun w2 (H : List Eng.Item) (S : List World) hw2 hs hno => dbuild_calls ⟨nm, bs⟩ ⟨q, cap⟩ w2 (hF H S w2 hw2 hs hno)
  obtain ⟨er, her⟩ : ∃ er, funcE ⟨nm, bs⟩ = er := ⟨_, rfl⟩
  obtain ⟨G, hG⟩ : ∃ G, graphB bs = G := ⟨_, rfl⟩
  have hGl : G.length = bs.length := by rw [← hG]; simp [graphB]
  simp only [fnC, her, hG, ← hGl] at hBu ⊢
  refine enter Try.func46 rfl Try.ntmps46 rfl (Cls.start w) ?_
  (simp only [argEnv, Nat.zero_add, Nat.reduceAdd])
  apply W.sr
  apply OL.box; rfl; rfl; exact CellsL.agg; (intro bk hbk; simp only [AllLe, and_true] at hbk)
  apply oas; rfl; rfl
  apply oas; rfl; rfl
  apply OL.nsr
  apply oop; rfl; apply Pev.load_blkA; rfl; exact yes; exact .head _; rfl; exact Take.au
  revert bk
  intro b1 hb1x
  have hb1 : w.heap.size ≤ b1 := by first | exact hb1x | exact hb1x.1
  refine OL.frzD (C' := fun w0 => Cls [] [w0, w]) (fun w0 hc0 => (hc0.thin (.any (fun k hk => by rw [show k = b1 from hk]; exact ⟨hb1, trivial⟩) Thin.nil)).note) (fun w0 hc0 => ?_)
  have hb10 : b1 < w0.heap.size := blk_lt (hc0.item (.head _))
  have hw0 : w.heap.size ≤ w0.heap.size := (hc0.kp w (.head _)).size
  have hcF : CellsAt w0 ⟨b1, 0, none⟩ [.int .i64 nm, .slice q G.length cap] := fun j v hj => by
    rw [add_mid, blk_cell (hc0.item (.head _)), Nat.zero_add]
    exact hj
  by_cases hne : er ≠ 0
  · (((first | (with_reducible apply OL.op) | (with_reducible apply QL.op)); (exact Guard.au); rfl; rfl); (exact Pev.call (v := .tuple #[.agg #[.slice none 0 0, .slice none 0 0], .int .i64 er]) rfl (by exact Args.au) (fun _ w2 hw2 => (hBu w2 _ _ hw2 (by exact mau) (fun k hk => NotOwned.nil)).mono (fun e w3 h => ⟨by rcases h.2 with h2 | h2; exact h2.2; exact absurd h2.1 hne, hw2.ext h.1⟩))))
    apply omv; rfl; rfl
    apply oex; rfl; rfl; rfl
    apply oex; rfl; rfl; rfl
    apply OL.alloc; rfl; rfl; exact CellsL.agg; (intro bk hbk; simp only [AllLe, and_true] at hbk)
    apply OL.storeB; rfl; rfl; exact CellsL.agg; rfl; rfl; rfl; exact Swap.au; exact Put.au
    apply oas; rfl; rfl
    apply OL.nx
    apply W.sb
    apply W.sr
    apply omv; rfl; rfl
    apply obn; rfl; rfl; rfl; apply Bin.neq
    apply oas; rfl; rfl
    apply OL.nx
    revert bk
    intro b2 hb2x
    have hb2 : w0.heap.size ≤ b2 := by first | exact hb2x | exact hb2x.1
    skip
    refine W.cond rfl (fun _ => ?_) (fun h => by simp at h; exact absurd h hne)
    apply W.sr
    apply omv; rfl; rfl
    apply oas; rfl; rfl
    apply oas; rfl; rfl
    apply OL.nx
    refine W.rt ?_
    ((with_reducible apply At.fin2); rfl; rfl; rfl; intro w' hw')
    exact ⟨hw'.toExt (by exact mau) (fun k hk => NotOwned.blk (by omega) NotOwned.nil), .inl ⟨hne, rfl⟩⟩
  obtain rfl : er = 0 := Classical.not_not.1 hne
  obtain ⟨h0, h128, hs0⟩ := func_zero her
  simp only at h0 h128 hs0
  have hGE : ∀ l ∈ G, ∀ x ∈ l, 0 ≤ x ∧ x < (G.length : Int) := fun l hl x hx => by
    rw [← hG] at hl
    obtain ⟨b, hb, rfl⟩ := List.mem_map.1 hl
    obtain ⟨e, he, rfl⟩ := List.mem_map.1 hx
    have := shape_edges hs0 b hb e he
    omega
  have hG0 : 0 < G.length := by omega
  have hGn : G.length ≤ 128 := by omega
  have hord := ordOk hGE hG0
  refine OL.callE (α := (Nat × Nat × (Nat → Option Nat)) × World) (fun z => .tuple #[.agg #[.slice (some ⟨z.1.1, 0, none⟩) G.length G.length, .slice (some ⟨z.1.2.1, 0, none⟩) G.length G.length], .int .i64 0]) (fun z => Ext w z.2 ∧ Ext w0 z.2 ∧ IntsO z.2 (low z.2) (tabI G.length fun k => ovI (z.1.2.2 k)) (some ⟨z.1.1, 0, none⟩) ∧ IntsO z.2 (low z.2) (tabI G.length (plc0 G)) (some ⟨z.1.2.1, 0, none⟩) ∧ EndR G (plN G) z.1.2.2 ∧ ∀ a k, Rc G (-1) k → (An z.1.2.2 a k ↔ Dm G a k)) (fun z => Cls [] [z.2, w0, w]) rfl rfl (by exact Args.au) (fun w2 hw2 => (hBu w2 _ _ hw2 (by exact mau) (fun k hk => NotOwned.nil)).mono fun e w3 ⟨h2, h3⟩ => ?_) ?_
  · rcases h3 with ⟨h3, _⟩ | ⟨_, bI, bP, o, h4, h5, h6, h7⟩
    · exact absurd rfl h3
    · have hx := hw2.ext h2
      exact ⟨((bI, bP, o), w3), h4, ⟨hx.toExt (by exact mau) (fun k hk => NotOwned.nil), hx.toExt (by exact mau) (fun k hk => NotOwned.nil), h5.mono (fun k hk => hk.2), h6.mono (fun k hk => hk.2), h7⟩, hx.note⟩
  rintro ⟨⟨bI, bP, o⟩, wB⟩ ⟨hxB, hx0B, hII, hIP, hend, hdm⟩
  simp only at hxB hx0B hII hIP hend hdm ⊢
  have hbIB : bI < wB.heap.size := by
    obtain ⟨a, _, ha, hb, _⟩ := hII.get (i := 0) (by rw [tabI_length]; exact hG0)
    obtain rfl := Option.some.inj ha
    exact hb
  have hbPB : bP < wB.heap.size := by
    obtain ⟨a, _, ha, hb, _⟩ := hIP.get (i := 0) (by rw [tabI_length]; exact hG0)
    obtain rfl := Option.some.inj ha
    exact hb
  have hwB : w0.heap.size ≤ wB.heap.size := hx0B.size
  apply omv; rfl; rfl
  apply oex; rfl; rfl; rfl
  apply oex; rfl; rfl; rfl
  apply OL.alloc; rfl; rfl; exact CellsL.agg; (intro bk hbk; simp only [AllLe, and_true] at hbk)
  apply OL.storeB; rfl; rfl; exact CellsL.agg; rfl; rfl; rfl; exact Swap.au; exact Put.au
  apply oas; rfl; rfl
  apply OL.nx
  apply W.sb
  apply W.sr
  apply omv; rfl; rfl
  apply obn; rfl; rfl; rfl; apply Bin.neq
  apply oas; rfl; rfl
  apply OL.nx
  revert bk
  intro b2 hb2x
  have hb2 : wB.heap.size ≤ b2 := by first | exact hb2x | exact hb2x.1
  refine W.frzD (C' := fun wC => Cls [] [wC, wB, w0, w]) (fun wC hcC => (hcC.thin (.any (fun k hk => by rw [show k = b2 from hk]; exact ⟨hb2, Nat.le_trans hwB hb2, Nat.le_trans (Nat.le_trans hw0 hwB) hb2, trivial⟩) Thin.nil)).note) (fun wC hcC => ?_)
  have hb2C : b2 < wC.heap.size := blk_lt (hcC.item (.head _))
  have hcB : CellsAt wC ⟨b2, 0, none⟩ [.slice (some ⟨bI, 0, none⟩) G.length G.length, .slice (some ⟨bP, 0, none⟩) G.length G.length] := fun j v hj => by
    rw [add_mid, blk_cell (hcC.item (.head _)), Nat.zero_add]
    exact hj
  have hcB0 : wC.cell? ⟨b2, 0 + 0, none⟩ = some (.slice (some ⟨bI, 0, none⟩) G.length G.length) := hcB 0 _ rfl
  have hcB1 : wC.cell? ⟨b2, 0 + 1, none⟩ = some (.slice (some ⟨bP, 0, none⟩) G.length G.length) := hcB 1 _ rfl
  refine W.cond rfl (fun h => by simp at h) (fun _ => ?_)
  apply W.sr
  apply oop; rfl; apply Pev.load_keptA; rfl; exact yes; exact .tail _ (.tail _ (.head _)); rfl; intro hcond; assumption; rfl; intro hcond; assumption; intro hcond; exact NotOwned.au
  apply omv; rfl; rfl
  apply omv; rfl; rfl
  apply OL.buildSlice; rfl; rfl; rfl; exact Elems.au; rfl; rfl; (intro bk hbk; simp only [AllLe, and_true] at hbk)
  revert bk
  intro b3 hb3x
  have hb3 : wC.heap.size ≤ b3 := by first | exact hb3x | exact hb3x.1
  have hwC : wB.heap.size ≤ wC.heap.size := (hcC.kp wB (.head _)).size
  skip
  (((first | (with_reducible apply OL.op) | (with_reducible apply QL.op)); (exact Guard.au); rfl; rfl); (exact Pev.call (v := .bool (inB G.length a b)) rfl (by exact Args.au) (fun _ w2 hw2 => (isBlock_calls nm G.length cap 2 q (some ⟨b3, 0, none⟩) [a, b] w2 (by simp) (blkInts (hw2.item (.head _)))).mono (fun e w3 h => ⟨h.1, hw2.ext h.2⟩))))
  apply oop; rfl; apply Pev.not; rfl; exact yes
  apply oas; rfl; rfl
  apply OL.nx
  refine W.cond rfl (fun hin => ?_) (fun hin => ?_)
  · have hin : inB G.length a b = false := by simpa using hin
    apply W.sr
    apply oas; rfl; rfl
    apply oas; rfl; rfl
    apply OL.nx
    refine W.rt ?_
    ((with_reducible apply At.fin2); rfl; rfl; rfl; intro w' hw')
    exact ⟨hw'.toExt (by exact mau) (fun k hk => NotOwned.blk (by omega) NotOwned.nil), .inr ⟨by trivial, .inl ⟨hin, rfl⟩⟩⟩
  have hin : inB G.length a b = true := by simpa using hin
  obtain ⟨x, z, rfl, rfl, hx, hz⟩ := inB_true hin
  apply W.skip
  with_reducible apply At.in_normal
  with_reducible apply At.next
  apply W.sr
  apply oop; rfl; apply Pev.load_keptA; rfl; exact yes; exact .head _; rfl; intro hcond; assumption; rfl; intro hcond; assumption; intro hcond; exact NotOwned.au
  apply omv; rfl; rfl
  apply omv; rfl; rfl
  refine OL.callE (α := Bool) (fun r => .bool r) (fun r => r = true ↔ ¬ Rc G (-1) z ∨ Dm G x z) (fun _ => Cls [blk b3 3 [.int .i64 (x : Int), .int .i64 (z : Int)]] [wC, wB, w0, w]) rfl rfl (by exact Args.au) (fun w2 hw2 => (dominates_calls G hGE hG0 o hend (some ⟨bI, 0, none⟩) (some ⟨bP, 0, none⟩) G.length G.length x z w2 (hII.at hw2 (by exact mau) (fun k hk => NotOwned.blk (by omega) NotOwned.nil)) (hIP.at hw2 (by exact mau) (fun k hk => NotOwned.blk (by omega) NotOwned.nil)) (by omega) hz).mono fun e w3 ⟨r, h5, h6, h8⟩ => ⟨r, h5, ?_, hw2.ext h8⟩) ?_
  · rw [h6]
    by_cases h9 : Rc G (-1) z
    · rw [hdm x z h9]
    · simp [h9]
  intro r hr
  apply oas; rfl; rfl
  apply oas; rfl; rfl
  apply OL.nx
  apply W.ret
  ((with_reducible apply At.fin2); rfl; rfl; rfl; intro w' hw')
  exact ⟨hw'.toExt (by exact mau) (fun k hk => NotOwned.blk (by omega) NotOwned.nil), .inr ⟨by trivial, .inr ⟨x, z, r, rfl, rfl, hx, hz, rfl, hr⟩⟩⟩
theorem DClosest_calls (fn : Go.Ss.Fn) (y : FnY) (a b : Int) (w : World) (hfn : FnOk w (low w) fn y) :
    Calls Try.prog 47 [.agg (fnC fn y).toArray, .int .i64 a, .int .i64 b].toArray w fun e w' => Ext w w' ∧ ((funcE fn ≠ 0 ∧ e = .returned (.tuple #[.int .i64 0, .int .i64 (funcE fn)])) ∨ (funcE fn = 0 ∧ ((inB fn.blocks.length a b = false ∧ e = .returned (.tuple #[.int .i64 0, .int .i64 4])) ∨ ∃ (x z : Nat), a = (x : Int) ∧ b = (z : Int) ∧ x < fn.blocks.length ∧ z < fn.blocks.length ∧ ((¬ (Rc (graphB fn.blocks) (-1) x ∧ Rc (graphB fn.blocks) (-1) z) ∧ e = .returned (.tuple #[.int .i64 0, .int .i64 12])) ∨ (Rc (graphB fn.blocks) (-1) x ∧ Rc (graphB fn.blocks) (-1) z ∧ ∃ c : Nat, e = .returned (.tuple #[.int .i64 (c : Int), .int .i64 0]) ∧ Rc (graphB fn.blocks) (-1) c ∧ ∀ d, Dm (graphB fn.blocks) d c ↔ Dm (graphB fn.blocks) d x ∧ Dm (graphB fn.blocks) d z))))) := by
  have hfn0 := hfn
  obtain ⟨nm, bs⟩ := fn
  obtain ⟨q, cap⟩ := y
  have hbl := hfn.bl
  have hF : ∀ (H : List Eng.Item) (S : List World) (w2 : World), Cls H S w2 → w ∈ S → (∀ k, k < w.heap.size → NotOwned H k) → FnOk w2 (low w2) ⟨nm, bs⟩ ⟨q, cap⟩ := fun H S w2 hw2 hs hno => fnR.mono (hw2.up hs) (fnR.stab (hw2.same hs hno) hfn0)
  have hBu := fun w2 (H : List Eng.Item) (S : List World) hw2 hs hno => dbuild_calls ⟨nm, bs⟩ ⟨q, cap⟩ w2 (hF H S w2 hw2 hs hno)
  obtain ⟨er, her⟩ : ∃ er, funcE ⟨nm, bs⟩ = er := ⟨_, rfl⟩
  obtain ⟨G, hG⟩ : ∃ G, graphB bs = G := ⟨_, rfl⟩
  have hGl : G.length = bs.length := by rw [← hG]; simp [graphB]
  simp only [fnC, her, hG, ← hGl] at hBu ⊢
  refine enter Try.func47 rfl Try.ntmps47 rfl (Cls.start w) ?_
  (simp only [argEnv, Nat.zero_add, Nat.reduceAdd])
  apply W.sr
  apply OL.box; rfl; rfl; exact CellsL.agg; (intro bk hbk; simp only [AllLe, and_true] at hbk)
  apply oas; rfl; rfl
  apply oas; rfl; rfl
  apply OL.nsr
  apply oop; rfl; apply Pev.load_blkA; rfl; exact yes; exact .head _; rfl; exact Take.au
  revert bk
  intro b1 hb1x
  have hb1 : w.heap.size ≤ b1 := by first | exact hb1x | exact hb1x.1
  refine OL.frzD (C' := fun w0 => Cls [] [w0, w]) (fun w0 hc0 => (hc0.thin (.any (fun k hk => by rw [show k = b1 from hk]; exact ⟨hb1, trivial⟩) Thin.nil)).note) (fun w0 hc0 => ?_)
  have hb10 : b1 < w0.heap.size := blk_lt (hc0.item (.head _))
  have hw0 : w.heap.size ≤ w0.heap.size := (hc0.kp w (.head _)).size
  have hcF : CellsAt w0 ⟨b1, 0, none⟩ [.int .i64 nm, .slice q G.length cap] := fun j v hj => by
    rw [add_mid, blk_cell (hc0.item (.head _)), Nat.zero_add]
    exact hj
  by_cases hne : er ≠ 0
  · (((first | (with_reducible apply OL.op) | (with_reducible apply QL.op)); (exact Guard.au); rfl; rfl); (exact Pev.call (v := .tuple #[.agg #[.slice none 0 0, .slice none 0 0], .int .i64 er]) rfl (by exact Args.au) (fun _ w2 hw2 => (hBu w2 _ _ hw2 (by exact mau) (fun k hk => NotOwned.nil)).mono (fun e w3 h => ⟨by rcases h.2 with h2 | h2; exact h2.2; exact absurd h2.1 hne, hw2.ext h.1⟩))))
    apply omv; rfl; rfl
    apply oex; rfl; rfl; rfl
    apply oex; rfl; rfl; rfl
    apply OL.alloc; rfl; rfl; exact CellsL.agg; (intro bk hbk; simp only [AllLe, and_true] at hbk)
    apply OL.storeB; rfl; rfl; exact CellsL.agg; rfl; rfl; rfl; exact Swap.au; exact Put.au
    apply oas; rfl; rfl
    apply OL.nx
    apply W.sb
    apply W.sr
    apply omv; rfl; rfl
    apply obn; rfl; rfl; rfl; apply Bin.neq
    apply oas; rfl; rfl
    apply OL.nx
    revert bk
    intro b2 hb2x
    have hb2 : w0.heap.size ≤ b2 := by first | exact hb2x | exact hb2x.1
    skip
    refine W.cond rfl (fun _ => ?_) (fun h => by simp at h; exact absurd h hne)
    apply W.sr
    apply omv; rfl; rfl
    apply oas; rfl; rfl
    apply oas; rfl; rfl
    apply OL.nx
    refine W.rt ?_
    ((with_reducible apply At.fin2); rfl; rfl; rfl; intro w' hw')
    exact ⟨hw'.toExt (by exact mau) (fun k hk => NotOwned.blk (by omega) NotOwned.nil), .inl ⟨hne, rfl⟩⟩
  obtain rfl : er = 0 := Classical.not_not.1 hne
  obtain ⟨h0, h128, hs0⟩ := func_zero her
  simp only at h0 h128 hs0
  have hGE : ∀ l ∈ G, ∀ x ∈ l, 0 ≤ x ∧ x < (G.length : Int) := fun l hl x hx => by
    rw [← hG] at hl
    obtain ⟨b, hb, rfl⟩ := List.mem_map.1 hl
    obtain ⟨e, he, rfl⟩ := List.mem_map.1 hx
    have := shape_edges hs0 b hb e he
    omega
  have hG0 : 0 < G.length := by omega
  have hGn : G.length ≤ 128 := by omega
  have hord := ordOk hGE hG0
  refine OL.callE (α := (Nat × Nat × (Nat → Option Nat)) × World) (fun z => .tuple #[.agg #[.slice (some ⟨z.1.1, 0, none⟩) G.length G.length, .slice (some ⟨z.1.2.1, 0, none⟩) G.length G.length], .int .i64 0]) (fun z => Ext w z.2 ∧ Ext w0 z.2 ∧ IntsO z.2 (low z.2) (tabI G.length fun k => ovI (z.1.2.2 k)) (some ⟨z.1.1, 0, none⟩) ∧ IntsO z.2 (low z.2) (tabI G.length (plc0 G)) (some ⟨z.1.2.1, 0, none⟩) ∧ EndR G (plN G) z.1.2.2 ∧ ∀ a k, Rc G (-1) k → (An z.1.2.2 a k ↔ Dm G a k)) (fun z => Cls [] [z.2, w0, w]) rfl rfl (by exact Args.au) (fun w2 hw2 => (hBu w2 _ _ hw2 (by exact mau) (fun k hk => NotOwned.nil)).mono fun e w3 ⟨h2, h3⟩ => ?_) ?_
  · rcases h3 with ⟨h3, _⟩ | ⟨_, bI, bP, o, h4, h5, h6, h7⟩
    · exact absurd rfl h3
    · have hx := hw2.ext h2
      exact ⟨((bI, bP, o), w3), h4, ⟨hx.toExt (by exact mau) (fun k hk => NotOwned.nil), hx.toExt (by exact mau) (fun k hk => NotOwned.nil), h5.mono (fun k hk => hk.2), h6.mono (fun k hk => hk.2), h7⟩, hx.note⟩
  rintro ⟨⟨bI, bP, o⟩, wB⟩ ⟨hxB, hx0B, hII, hIP, hend, hdm⟩
  simp only at hxB hx0B hII hIP hend hdm ⊢
  have hbIB : bI < wB.heap.size := by
    obtain ⟨a, _, ha, hb, _⟩ := hII.get (i := 0) (by rw [tabI_length]; exact hG0)
    obtain rfl := Option.some.inj ha
    exact hb
  have hbPB : bP < wB.heap.size := by
    obtain ⟨a, _, ha, hb, _⟩ := hIP.get (i := 0) (by rw [tabI_length]; exact hG0)
    obtain rfl := Option.some.inj ha
    exact hb
  have hwB : w0.heap.size ≤ wB.heap.size := hx0B.size
  apply omv; rfl; rfl
  apply oex; rfl; rfl; rfl
  apply oex; rfl; rfl; rfl
  apply OL.alloc; rfl; rfl; exact CellsL.agg; (intro bk hbk; simp only [AllLe, and_true] at hbk)
  apply OL.storeB; rfl; rfl; exact CellsL.agg; rfl; rfl; rfl; exact Swap.au; exact Put.au
  apply oas; rfl; rfl
  apply OL.nx
  apply W.sb
  apply W.sr
  apply omv; rfl; rfl
  apply obn; rfl; rfl; rfl; apply Bin.neq
  apply oas; rfl; rfl
  apply OL.nx
  revert bk
  intro b2 hb2x
  have hb2 : wB.heap.size ≤ b2 := by first | exact hb2x | exact hb2x.1
  refine W.frzD (C' := fun wC => Cls [] [wC, wB, w0, w]) (fun wC hcC => (hcC.thin (.any (fun k hk => by rw [show k = b2 from hk]; exact ⟨hb2, Nat.le_trans hwB hb2, Nat.le_trans (Nat.le_trans hw0 hwB) hb2, trivial⟩) Thin.nil)).note) (fun wC hcC => ?_)
  have hb2C : b2 < wC.heap.size := blk_lt (hcC.item (.head _))
  have hcB : CellsAt wC ⟨b2, 0, none⟩ [.slice (some ⟨bI, 0, none⟩) G.length G.length, .slice (some ⟨bP, 0, none⟩) G.length G.length] := fun j v hj => by
    rw [add_mid, blk_cell (hcC.item (.head _)), Nat.zero_add]
    exact hj
  have hcB0 : wC.cell? ⟨b2, 0 + 0, none⟩ = some (.slice (some ⟨bI, 0, none⟩) G.length G.length) := hcB 0 _ rfl
  have hcB1 : wC.cell? ⟨b2, 0 + 1, none⟩ = some (.slice (some ⟨bP, 0, none⟩) G.length G.length) := hcB 1 _ rfl
  refine W.cond rfl (fun h => by simp at h) (fun _ => ?_)
  apply W.sr
  apply oop; rfl; apply Pev.load_keptA; rfl; exact yes; exact .tail _ (.tail _ (.head _)); rfl; intro hcond; assumption; rfl; intro hcond; assumption; intro hcond; exact NotOwned.au
  apply omv; rfl; rfl
  apply omv; rfl; rfl
  apply OL.buildSlice; rfl; rfl; rfl; exact Elems.au; rfl; rfl; (intro bk hbk; simp only [AllLe, and_true] at hbk)
  revert bk
  intro b3 hb3x
  have hb3 : wC.heap.size ≤ b3 := by first | exact hb3x | exact hb3x.1
  have hwC : wB.heap.size ≤ wC.heap.size := (hcC.kp wB (.head _)).size
  skip
  (((first | (with_reducible apply OL.op) | (with_reducible apply QL.op)); (exact Guard.au); rfl; rfl); (exact Pev.call (v := .bool (inB G.length a b)) rfl (by exact Args.au) (fun _ w2 hw2 => (isBlock_calls nm G.length cap 2 q (some ⟨b3, 0, none⟩) [a, b] w2 (by simp) (blkInts (hw2.item (.head _)))).mono (fun e w3 h => ⟨h.1, hw2.ext h.2⟩))))
  apply oop; rfl; apply Pev.not; rfl; exact yes
  apply oas; rfl; rfl
  apply OL.nx
  refine W.cond rfl (fun hin => ?_) (fun hin => ?_)
  · have hin : inB G.length a b = false := by simpa using hin
    apply W.sr
    apply oas; rfl; rfl
    apply oas; rfl; rfl
    apply OL.nx
    refine W.rt ?_
    ((with_reducible apply At.fin2); rfl; rfl; rfl; intro w' hw')
    exact ⟨hw'.toExt (by exact mau) (fun k hk => NotOwned.blk (by omega) NotOwned.nil), .inr ⟨by trivial, .inl ⟨hin, rfl⟩⟩⟩
  have hin : inB G.length a b = true := by simpa using hin
  obtain ⟨x, z, rfl, rfl, hx, hz⟩ := inB_true hin
  have hpx : ∀ k, Rc G (-1) k → Pr G o k := fun k hk => ⟨hk, by
    by_cases e : k = 0
    · exact .inl e
    · exact .inr (hend.all k hk e)⟩
  obtain ⟨a5, v1, hq1, hab1, hv1, hc1⟩ := hIP.get (show x < (tabI G.length (plc0 G)).length by rw [tabI_length]; exact hx)
  rw [tabI_get hx] at hv1
  obtain rfl := Option.some.inj hv1
  obtain rfl := Option.some.inj hq1
  obtain ⟨a6, v2, hq2, hab2, hv2, hc2⟩ := hIP.get (show z < (tabI G.length (plc0 G)).length by rw [tabI_length]; exact hz)
  rw [tabI_get hz] at hv2
  obtain rfl := Option.some.inj hv2
  obtain rfl := Option.some.inj hq2
  rw [add_mid] at hc1 hc2
  apply W.sr
  apply ofa; rfl; rfl; rfl
  apply oop; rfl; apply Pev.load_kept; rfl; exact yes; exact .head _; rfl; intro hcond; assumption; intro hcond; assumption; intro hcond; exact NotOwned.au
  apply omv; rfl; rfl
  apply oop; rfl; apply Pev.idxB; rfl; exact yes; rfl; exact yes; rfl; intro hcond; omega; rfl
  apply oop; rfl; apply Pev.load_kept; rfl; exact yes; exact .tail _ (.head _); rfl; intro hcond; assumption; intro hcond; assumption; intro hcond; exact NotOwned.au
  apply obn; rfl; rfl; rfl; apply Bin.lss
  apply omv; rfl; rfl
  apply ono; rfl; rfl; rfl; apply Pev.fld; rfl; exact yes; rfl
  apply ono; rfl; rfl; rfl; apply Pev.load_kept; rfl; exact fun h => h; exact .head _; rfl; intro hcond; assumption; intro hcond; assumption; intro hcond; exact NotOwned.au
  apply ono; rfl; rfl; rfl; apply Pev.move; rfl; exact yes
  apply ono; rfl; rfl; rfl; apply Pev.idxB; rfl; exact fun h => h; rfl; exact fun h => h; rfl; intro hcond; omega; rfl
  apply ono; rfl; rfl; rfl; apply Pev.load_kept; rfl; exact fun h => h; exact .tail _ (.head _); rfl; intro hcond; assumption; intro hcond; assumption; intro hcond; exact NotOwned.au
  apply ono; rfl; rfl; rfl; apply Pev.bin; rfl; exact fun h => h; rfl; exact yes; intro hcond; apply Bin.lss
  apply oop; rfl; apply Pev.pick_or; rfl; exact yes; rfl; exact fun h => h
  apply oas; rfl; rfl
  apply OL.nx
  have e1 := plc0_iff hGE hG0 x
  have e2 := plc0_iff hGE hG0 z
  refine W.cond rfl (fun h3 => ?_) (fun h3 => ?_)
  · have hn : ¬ (Rc G (-1) x ∧ Rc G (-1) z) := by
      rintro ⟨h4, h5⟩
      have h6 := e1.2 h4
      have h7 := e2.2 h5
      rcases Bool.or_eq_true _ _ ▸ h3 with h8 | h8
      · have := of_decide_eq_true h8; omega
      · have := of_decide_eq_true h8; omega
    apply W.sr
    apply oas; rfl; rfl
    apply oas; rfl; rfl
    apply OL.nx
    refine W.rt ?_
    ((with_reducible apply At.fin2); rfl; rfl; rfl; intro w' hw')
    exact ⟨hw'.toExt (by exact mau) (fun k hk => NotOwned.blk (by omega) NotOwned.nil), .inr ⟨by trivial, .inr ⟨x, z, rfl, rfl, hx, hz, .inl ⟨hn, rfl⟩⟩⟩⟩
  have hrc : Rc G (-1) x ∧ Rc G (-1) z := by
    rw [← e1, ← e2]
    rw [Bool.or_eq_false_iff, decide_eq_false_iff_not, decide_eq_false_iff_not] at h3
    omega
  apply W.skip
  with_reducible apply At.in_normal
  with_reducible apply At.next
  apply W.sr
  apply oop; rfl; apply Pev.load_keptA; rfl; exact yes; exact .head _; rfl; intro hcond; assumption; rfl; intro hcond; assumption; intro hcond; exact NotOwned.au
  apply omv; rfl; rfl
  apply omv; rfl; rfl
  refine OL.callE (α := Nat) (fun c => .int .i64 (c : Int)) (fun c => Pr G o c ∧ ∀ d, An o d c ↔ An o d x ∧ An o d z) (fun _ => Cls [blk b3 3 [.int .i64 (x : Int), .int .i64 (z : Int)]] [wC, wB, w0, w]) rfl rfl (by exact Args.au) (fun w2 hw2 => (meet_calls G hGE hG0 o hend.w (some ⟨bI, 0, none⟩) (some ⟨bP, 0, none⟩) G.length G.length x z w2 (hII.at hw2 (by exact mau) (fun k hk => NotOwned.blk (by omega) NotOwned.nil)) (hIP.at hw2 (by exact mau) (fun k hk => NotOwned.blk (by omega) NotOwned.nil)) (by omega) (hpx x hrc.1) (hpx z hrc.2)).mono fun e w3 ⟨c, h5, h6, h7, h8⟩ => ⟨c, h5, ⟨h6, h7⟩, hw2.ext h8⟩) ?_
  rintro c ⟨hc, hcd⟩
  apply oas; rfl; rfl
  apply oas; rfl; rfl
  apply OL.nx
  apply W.ret
  ((with_reducible apply At.fin2); rfl; rfl; rfl; intro w' hw')
  exact ⟨hw'.toExt (by exact mau) (fun k hk => NotOwned.blk (by omega) NotOwned.nil), .inr ⟨by trivial, .inr ⟨x, z, rfl, rfl, hx, hz, .inr ⟨hrc.1, hrc.2, c, rfl, hc.1, fun d => by rw [← hdm d c hc.1, ← hdm d x hrc.1, ← hdm d z hrc.2]; exact hcd d⟩⟩⟩⟩
end Go.Proofs.Ytehelljmaiophaa.ss

/- The walks of loops' over, of slices.BinarySearch at ints. Conditions: none. -/
namespace Go.Ss
set_option linter.unusedVariables false
set_option linter.unusedSimpArgs false
open Go.Eng Go.RowKit
set_option linter.unusedVariables false
set_option linter.unusedSimpArgs false
theorem sorted_lt {l : List Int} (h : l.Pairwise (· < ·)) {i j : Nat} {u v : Int} (hij : i < j) (hi : l[i]? = some u) (hj : l[j]? = some v) : u < v := by
  obtain ⟨h1, rfl⟩ := List.getElem?_eq_some_iff.1 hi
  obtain ⟨h2, rfl⟩ := List.getElem?_eq_some_iff.1 hj
  exact List.pairwise_iff_getElem.1 h i j h1 h2 hij
end Go.Ss
namespace Go.Proofs.Ytehelljmaiophaa.ss
set_option linter.unusedVariables false
set_option linter.unusedSimpArgs false
set_option maxRecDepth 100000
open Go.Eng Go.RowKit Go.Ss
set_option linter.unusedVariables false
set_option linter.unusedSimpArgs false
theorem lover_calls (G : List (List Int)) (o : Nat → Option Nat) (he : EndR G (plN G) o) (q : Option Addr) (cap a b : Nat) (w : World) (hO : IntsO w (low w) (tabI G.length fun k => ovI (o k)) q) (hlen : G.length ≤ 1000000) (hb : Rc G (-1) b) :
    Calls Try.prog 133 [.slice q G.length cap, .int .i64 (a : Int), .int .i64 (b : Int)].toArray w fun e w' => ∃ r : Bool, e = .returned (.bool r) ∧ (r = true ↔ An o a b) ∧ Ext w w' := by
  refine enter Try.func133 rfl Try.ntmps133 rfl (Cls.start w) ?_
  (simp only [argEnv, Nat.zero_add, Nat.reduceAdd])
  apply W.sr
  apply oas; rfl; rfl
  apply OL.nx
  apply W.sb
  refine W.loop (G := Option Nat) (fun z => match z with | none => ¬ An o a b | some y => Rc G (-1) y ∧ (An o a y ↔ An o a b)) (fun z => match z with | none => 0 | some y => plN G y + 1)
    (fun z => [(0, true, .slice q G.length cap), (1, true, .int .i64 (a : Int)), (2, true, .int .i64 (ovI z))])
    (fun _ => Cls [] [w]) (some b) ⟨hb, Iff.rfl⟩ (by simp only [ovI]; exact Sub.au) (fun w' hw' => hw') ?_
  intro z hz
  cases z with
  | none =>
    simp only [ovI] at hz ⊢
    apply W.seq
    apply W.sr
    apply omv; rfl; rfl
    apply obn; rfl; rfl; rfl; apply Bin.geq
    apply omv; rfl; rfl
    apply oy; rfl; rfl; rfl; apply Pev.move; rfl; exact yes
    apply oy; rfl; rfl; rfl; apply Pev.move; rfl; exact yes
    apply oy; rfl; rfl; rfl; apply Pev.bin; rfl; exact fun h => h; rfl; exact fun h => h; intro hcond; apply Bin.neq
    apply oop; rfl; apply Pev.pick_and; rfl; exact yes; rfl; exact fun h => h
    apply OL.nx
    refine W.cond rfl (fun h => by simp at h) (fun _ => ?_)
    refine W.xt ?_
    with_reducible apply At.next
    apply W.sr
    apply omv; rfl; rfl
    apply omv; rfl; rfl
    apply obn; rfl; rfl; rfl; apply Bin.eql
    apply oas; rfl; rfl
    apply OL.nx
    apply W.ret
    ((with_reducible apply At.fin1); rfl; rfl; intro w' hw')
    exact ⟨decide ((a : Int) = (-1 : Int)), rfl, by simp [hz], by (exact hw'.fr)⟩
  | some y =>
    simp only [ovI] at hz ⊢
    obtain ⟨hyr, hy⟩ := hz
    have hyl := hyr.lt
    obtain ⟨aO, v1, hqO, habO, hv1, hd1⟩ := hO.get (show y < (tabI G.length fun k => ovI (o k)).length by rw [tabI_length]; exact hyl)
    rw [tabI_get hyl] at hv1
    obtain rfl := Option.some.inj hv1
    have habO : aO.block < w.heap.size := habO
    subst hqO
    apply W.seq
    apply W.sr
    apply omv; rfl; rfl
    apply obn; rfl; rfl; rfl; apply Bin.geq
    apply omv; rfl; rfl
    apply oy; rfl; rfl; rfl; apply Pev.move; rfl; exact yes
    apply oy; rfl; rfl; rfl; apply Pev.move; rfl; exact yes
    apply oy; rfl; rfl; rfl; apply Pev.bin; rfl; exact yes; rfl; exact yes; intro hcond; apply Bin.neq
    apply oop; rfl; apply Pev.pick_and; rfl; exact yes; rfl; exact yes
    apply OL.nx
    refine W.cond rfl (fun h2 => ?_) (fun h2 => ?_)
    · have hya : y ≠ a := fun e => by subst e; simp at h2
      apply W.sk
      apply W.block
      apply W.reg
      apply omv; rfl; rfl
      apply omv; rfl; rfl
      apply oop; rfl; apply Pev.idx; rfl; exact yes; rfl; exact yes; rfl; rfl; intro hcond; omega
      apply oop; rfl; apply Pev.load_kept; rfl; exact yes; exact .head _; rfl; intro hcond; assumption; intro hcond; (rw [add_block]; assumption); intro hcond; exact NotOwned.au
      apply oas; rfl; rfl
      apply OL.nil
      with_reducible apply At.in_normal
      refine At.again (o y) ?_ ?_ (by exact Sub.au) (fun w' hw' => hw')
      · cases hoy : o y with
        | none =>
          intro ha
          cases hy.2 ha with
          | refl => exact hya rfl
          | up h3 _ => rw [hoy] at h3; cases h3
        | some p =>
          refine ⟨(he.w.wf y p hoy).2.1, ?_⟩
          rw [← hy]
          constructor
          · exact fun h => .up hoy h
          · intro h
            cases h with
            | refl => exact absurd rfl hya
            | up h3 r =>
              rw [hoy] at h3
              obtain rfl := Option.some.inj h3
              exact r
      · cases hoy : o y with
        | none => simp only; omega
        | some p => have := (he.w.wf y p hoy).2.2.1; simp only; omega
    · obtain rfl : y = a := by simp at h2; omega
      refine W.xt ?_
      with_reducible apply At.next
      apply W.sr
      apply omv; rfl; rfl
      apply omv; rfl; rfl
      apply obn; rfl; rfl; rfl; apply Bin.eql
      apply oas; rfl; rfl
      apply OL.nx
      apply W.ret
      ((with_reducible apply At.fin1); rfl; rfl; intro w' hw')
      exact ⟨decide ((y : Int) = (y : Int)), rfl, by simp [← hy, An.refl], by (exact hw'.fr)⟩
theorem cnan_calls (a : Int) (w : World) : Calls Try.prog 162 [.int .i64 a].toArray w fun e w' => e = .returned (.bool false) ∧ Ext w w' := by
  refine enter Try.func162 rfl Try.ntmps162 rfl (Cls.start w) ?_
  (simp only [argEnv, Nat.zero_add, Nat.reduceAdd])
  apply W.sr
  apply oas; rfl; rfl
  apply OL.nsr
  apply omv; rfl; rfl
  apply omv; rfl; rfl
  apply obn; rfl; rfl; rfl; apply Bin.neq
  apply oas; rfl; rfl
  apply OL.nx
  apply W.ret
  ((with_reducible apply At.fin1); rfl; rfl; intro w' hw')
  exact ⟨by simp, by (exact hw'.fr)⟩
theorem snan_calls (a : Int) (w : World) : Calls Try.prog 135 [.int .i64 a].toArray w fun e w' => e = .returned (.bool false) ∧ Ext w w' := by
  refine enter Try.func135 rfl Try.ntmps135 rfl (Cls.start w) ?_
  (simp only [argEnv, Nat.zero_add, Nat.reduceAdd])
  apply W.sr
  apply oas; rfl; rfl
  apply OL.nsr
  apply omv; rfl; rfl
  apply omv; rfl; rfl
  apply obn; rfl; rfl; rfl; apply Bin.neq
  apply oas; rfl; rfl
  apply OL.nx
  apply W.ret
  ((with_reducible apply At.fin1); rfl; rfl; intro w' hw')
  exact ⟨by simp, by (exact hw'.fr)⟩
theorem less_calls (a b : Int) (w : World) : Calls Try.prog 134 [.int .i64 a, .int .i64 b].toArray w fun e w' => e = .returned (.bool (decide (a < b))) ∧ Ext w w' := by
  refine enter Try.func134 rfl Try.ntmps134 rfl (Cls.start w) ?_
  (simp only [argEnv, Nat.zero_add, Nat.reduceAdd])
  apply W.sr
  apply oas; rfl; rfl
  apply OL.nsr
  apply omv; rfl; rfl
  (((first | (with_reducible apply OL.op) | (with_reducible apply QL.op)); (exact Guard.au); rfl; rfl); (exact Pev.call (v := .bool false) rfl (by exact Args.au) (fun _ w2 hw2 => (cnan_calls a w2).mono (fun e w3 h => ⟨h.1, hw2.ext h.2⟩))))
  apply omv; rfl; rfl
  apply oy; rfl; rfl; rfl; with_reducible exact Pev.no
  apply oy; rfl; rfl; rfl; with_reducible exact Pev.no
  apply oy; rfl; rfl; rfl; with_reducible exact Pev.no
  apply oop; rfl; apply Pev.pick_and; rfl; exact yes; rfl; exact fun h => h
  apply omv; rfl; rfl
  apply ono; rfl; rfl; rfl; apply Pev.move; rfl; exact yes
  apply ono; rfl; rfl; rfl; apply Pev.move; rfl; exact yes
  apply ono; rfl; rfl; rfl; apply Pev.bin; rfl; exact yes; rfl; exact yes; intro hcond; apply Bin.lss
  apply oop; rfl; apply Pev.pick_or; rfl; exact yes; rfl; exact yes
  apply oas; rfl; rfl
  apply OL.nx
  apply W.ret
  ((with_reducible apply At.fin1); rfl; rfl; intro w' hw')
  exact ⟨by simp, by (exact hw'.fr)⟩
theorem BSearch_calls (q : Option Addr) (cap : Nat) (l : List Int) (x : Int) (w : World) (hs : l.Pairwise (· < ·)) (hlen : l.length ≤ 1000000) (h : IntsO w (low w) l q) :
    Calls Try.prog 97 [.slice q l.length cap, .int .i64 x].toArray w fun e w' => (∃ i : Int, e = .returned (.tuple #[.int .i64 i, .bool (decide (x ∈ l))])) ∧ Ext w w' := by
  refine enter Try.func97 rfl Try.ntmps97 rfl (Cls.start w) ?_
  (simp only [argEnv, Nat.zero_add, Nat.reduceAdd])
  apply W.sr
  apply oas; rfl; rfl
  apply oas; rfl; rfl
  apply OL.nsr
  apply omv; rfl; rfl
  apply oop; rfl; apply Pev.len_slice; rfl; exact yes; rfl
  apply oas; rfl; rfl
  apply OL.nsr
  apply omv; rfl; rfl
  apply oas; rfl; rfl
  apply oas; rfl; rfl
  apply OL.nx
  apply W.sb
  refine W.loop (G := Nat × Nat) (fun z => (z.1 ≤ z.2 ∧ z.2 ≤ l.length) ∧ (∀ j u, j < z.1 → l[j]? = some u → u < x) ∧ (∀ j u, z.2 ≤ j → l[j]? = some u → x ≤ u)) (fun z => z.2 - z.1)
    (fun z => [(0, true, .slice q l.length cap), (1, true, .int .i64 x), (6, true, .int .i64 (l.length : Int)), (7, true, .int .i64 (z.1 : Int)), (8, true, .int .i64 (z.2 : Int))])
    (fun _ => Cls [] [w]) (0, l.length) ⟨⟨by simp, by simp⟩, fun j u h => by simp at h, fun j u hj hu => by have := (List.getElem?_eq_some_iff.1 hu).1; simp only at hj; omega⟩ (by exact Sub.au) (fun w' hw' => hw') ?_
  rintro ⟨i, j⟩ ⟨⟨hij, hjl⟩, h1, h2⟩
  simp only at hij hjl h1 h2 ⊢
  apply W.seq
  apply W.sr
  apply omv; rfl; rfl
  apply omv; rfl; rfl
  apply obn; rfl; rfl; rfl; apply Bin.lss
  apply OL.nx
  (refine W.cnd (fun hlt => ?_) (fun hlt => ?_)) <;> (try (exfalso; first | omega | exact hlt trivial | contradiction))
  · have hlt : i < j := by omega
    obtain ⟨m, hm⟩ : ∃ m, (i + j) / 2 = m := ⟨_, rfl⟩
    have hwr : IntKind.i64.wrap (IntKind.u64.wrap ((i : Int) + (j : Int)) / 2 ^ Int.toNat 1) = (m : Int) := by
      rw [show IntKind.u64.wrap ((i : Int) + (j : Int)) = (i : Int) + j by simp [IntKind.wrap, IntKind.bits, IntKind.signed]; omega]
      rw [show ((i : Int) + j) / 2 ^ Int.toNat 1 = (m : Int) by rw [show (2 : Int) ^ Int.toNat 1 = 2 from rfl]; omega]
      simp [IntKind.wrap, IntKind.bits, IntKind.signed]
      omega
    obtain ⟨a, v, hqa, hab, hv, hc⟩ := h.get (show m < l.length by omega)
    have hab : a.block < w.heap.size := hab
    subst hqa
    apply W.sk
    apply W.block
    apply W.sr
    apply omv; rfl; rfl
    apply omv; rfl; rfl
    apply obn; rfl; rfl; rfl; apply Bin.add_in; omega
    apply oop; rfl; apply Pev.conv_int; rfl; exact yes; rfl; rfl
    apply obn; rfl; rfl; rfl; apply Bin.shr; decide
    apply oop; rfl; apply Pev.conv_int; rfl; exact yes; rfl; rfl
    apply oas; rfl; rfl
    apply OL.nsr
    apply omv; rfl; rfl
    apply omv; rfl; rfl
    apply oop; rfl; apply Pev.idxI; rfl; exact yes; rfl; exact yes; rfl; intro hcond; omega
    rw [hwr]
    apply oop; rfl; apply Pev.load_kept; rfl; exact yes; exact .head _; rfl; intro hcond; assumption; intro hcond; (rw [add_block]; assumption); intro hcond; exact NotOwned.au
    apply omv; rfl; rfl
    (((first | (with_reducible apply OL.op) | (with_reducible apply QL.op)); (exact Guard.au); rfl; rfl); (exact Pev.call (v := .bool (decide (v < x))) rfl (by exact Args.au) (fun _ w2 hw2 => (less_calls v x w2).mono (fun e w3 h => ⟨h.1, hw2.ext h.2⟩))))
    apply OL.nx
    refine W.cond rfl (fun h3 => ?_) (fun h3 => ?_)
    · have hvx : v < x := by simpa using h3
      apply W.reg
      apply omv; rfl; rfl
      apply obn; rfl; rfl; rfl; apply Bin.add_in; omega
      apply oas; rfl; rfl
      apply OL.nil
      with_reducible apply At.in_normal
      refine At.again (m + 1, j) ⟨⟨by simp only; omega, hjl⟩, fun k u hk hu => ?_, h2⟩ (by simp only; omega) (by exact Sub.au) (fun w' hw' => hw')
      simp only at hk
      by_cases e : k = m
      · subst e
        rw [hv] at hu
        obtain rfl := Option.some.inj hu
        exact hvx
      · have := sorted_lt hs (show k < m by omega) hu hv
        omega
    · have hvx : x ≤ v := by simpa using h3
      apply W.reg
      apply omv; rfl; rfl
      apply oas; rfl; rfl
      apply OL.nil
      with_reducible apply At.in_normal
      refine At.again (i, m) ⟨⟨by simp only; omega, by simp only; omega⟩, h1, fun k u hk hu => ?_⟩ (by simp only; omega) (by exact Sub.au) (fun w' hw' => hw')
      simp only at hk
      by_cases e : k = m
      · subst e
        rw [hv] at hu
        obtain rfl := Option.some.inj hu
        exact hvx
      · have := sorted_lt hs (show m < k by omega) hv hu
        omega
  · obtain rfl : i = j := by omega
    by_cases hil : i < l.length
    · obtain ⟨a, v, hqa, hab, hv, hc⟩ := h.get hil
      have hab : a.block < w.heap.size := hab
      subst hqa
      have hin : (v = x) ↔ x ∈ l := by
        constructor
        · intro e
          rw [← e]
          exact List.mem_of_getElem? hv
        · intro hx
          obtain ⟨k, hk⟩ := List.getElem?_of_mem hx
          have h4 := h2 i v (Nat.le_refl _) hv
          rcases Nat.lt_trichotomy k i with h5 | rfl | h5
          · have := h1 k x h5 hk; omega
          · rw [hk] at hv
            exact (Option.some.inj hv).symm
          · have := sorted_lt hs h5 hv hk; omega
      refine W.xt ?_
      with_reducible apply At.next
      apply W.sr
      apply omv; rfl; rfl
      apply omv; rfl; rfl
      apply omv; rfl; rfl
      apply obn; rfl; rfl; rfl; apply Bin.lss
      apply omv; rfl; rfl
      apply oy; rfl; rfl; rfl; apply Pev.move; rfl; exact yes
      apply oy; rfl; rfl; rfl; apply Pev.move; rfl; exact yes
      apply oy; rfl; rfl; rfl; apply Pev.idx; rfl; exact fun h => h; rfl; exact fun h => h; rfl; rfl; intro hcond; omega
      apply oy; rfl; rfl; rfl; apply Pev.load_kept; rfl; exact fun h => h; exact .head _; rfl; intro hcond; assumption; intro hcond; (rw [add_block]; assumption); intro hcond; exact NotOwned.au
      apply oy; rfl; rfl; rfl; apply Pev.move; rfl; exact yes
      apply oy; rfl; rfl; rfl; apply Pev.bin; rfl; exact fun h => h; rfl; exact fun h => h; intro hcond; apply Bin.eql
      apply oy; rfl; rfl; rfl; apply Pev.move; rfl; exact fun h => h
      apply OL.op; exact Guard.cno rfl rfl; rfl; rfl; apply Pev.move; rfl; exact yes
      apply OL.op; exact Guard.cno rfl rfl; rfl; rfl; apply Pev.move; rfl; exact yes
      apply OL.op; exact Guard.cno rfl rfl; rfl; rfl; apply Pev.idx; rfl; exact fun h => h; rfl; exact fun h => h; rfl; rfl; intro hcond; omega
      apply OL.op; exact Guard.cno rfl rfl; rfl; rfl; apply Pev.load_kept; rfl; exact fun h => h; exact .head _; rfl; intro hcond; assumption; intro hcond; (rw [add_block]; assumption); intro hcond; exact NotOwned.au
      (((first | (with_reducible apply OL.op) | (with_reducible apply QL.op)); (exact Guard.au); rfl; rfl); (exact Pev.call (v := .bool false) rfl (by exact Args.au) (fun _ w2 hw2 => (snan_calls v w2).mono (fun e w3 h => ⟨h.1, hw2.ext h.2⟩))))
      apply OL.op; exact Guard.cno rfl rfl; rfl; rfl; apply Pev.move; rfl; exact fun h => h
      apply OL.op; exact Guard.cyes rfl rfl; rfl; rfl; apply Pev.move; rfl; exact yes
      apply OL.gateOff; exact Guard.cyes rfl rfl; (focus (simp; done)); rfl
      apply OL.op; exact Guard.cno rfl rfl; rfl; rfl; apply Pev.pick_off; rfl; exact fun h => h; (intro hcond; rfl); rfl; exact yes
      apply oy; rfl; rfl; rfl; apply Pev.pick_or; rfl; exact fun h => h; rfl; exact fun h => h
      apply oop; rfl; apply Pev.pick_and; rfl; exact yes; rfl; exact fun h => h
      apply oas; rfl; rfl
      apply oas; rfl; rfl
      apply OL.nx
      apply W.ret
      ((with_reducible apply At.fin2); rfl; rfl; rfl; intro w' hw')
      exact ⟨⟨(i : Int), by simp only [Bool.or_false, ← hin]; simp [hil]⟩, by (exact hw'.fr)⟩
    · have hnin : ¬ x ∈ l := fun hx => by
        obtain ⟨k, hk⟩ := List.getElem?_of_mem hx
        have := h1 k x (by have := (List.getElem?_eq_some_iff.1 hk).1; omega) hk
        omega
      have hnl : True → ¬ i < l.length := fun _ => hil
      clear hil
      refine W.xt ?_
      with_reducible apply At.next
      apply W.sr
      apply omv; rfl; rfl
      apply omv; rfl; rfl
      apply omv; rfl; rfl
      apply obn; rfl; rfl; rfl; apply Bin.lss
      apply omv; rfl; rfl
      apply oy; rfl; rfl; rfl; apply Pev.move; rfl; exact yes
      apply oy; rfl; rfl; rfl; apply Pev.move; rfl; exact yes
      (((first | (with_reducible apply OL.op) | (with_reducible apply QL.op)); (exact Guard.au); rfl; rfl); (exact Pev.void (v := .pointer none) (by have := hnl trivial; simp; omega)))
      (((first | (with_reducible apply OL.op) | (with_reducible apply QL.op)); (exact Guard.au); rfl; rfl); (exact Pev.void (v := .int .i64 0) (by have := hnl trivial; simp; omega)))
      apply oy; rfl; rfl; rfl; apply Pev.move; rfl; exact yes
      apply oy; rfl; rfl; rfl; apply Pev.bin; rfl; exact fun h => h; rfl; exact fun h => h; intro hcond; apply Bin.eql
      apply oy; rfl; rfl; rfl; apply Pev.move; rfl; exact fun h => h
      apply OL.op; exact Guard.cno rfl rfl; rfl; rfl; apply Pev.move; rfl; exact yes
      apply OL.op; exact Guard.cno rfl rfl; rfl; rfl; apply Pev.move; rfl; exact yes
      (((first | (with_reducible apply OL.op) | (with_reducible apply QL.op)); (exact Guard.au); rfl; rfl); (exact Pev.void (v := .pointer none) (by have := hnl trivial; simp; omega)))
      (((first | (with_reducible apply OL.op) | (with_reducible apply QL.op)); (exact Guard.au); rfl; rfl); (exact Pev.void (v := .int .i64 0) (by have := hnl trivial; simp; omega)))
      skip
      (((first | (with_reducible apply OL.op) | (with_reducible apply QL.op)); (exact Guard.au); rfl; rfl); (exact Pev.call (v := .bool false) rfl (by exact Args.au) (fun _ w2 hw2 => (snan_calls 0 w2).mono (fun e w3 h => ⟨h.1, hw2.ext h.2⟩))))
      apply OL.op; exact Guard.cno rfl rfl; rfl; rfl; apply Pev.move; rfl; exact fun h => h
      apply OL.op; exact Guard.cyes rfl rfl; rfl; rfl; apply Pev.move; rfl; exact yes
      apply OL.gateOff; exact Guard.cyes rfl rfl; (focus (simp; done)); rfl
      apply OL.op; exact Guard.cno rfl rfl; rfl; rfl; apply Pev.pick_off; rfl; exact fun h => h; (intro hcond; rfl); rfl; exact yes
      apply oy; rfl; rfl; rfl; apply Pev.pick_or; rfl; exact fun h => h; rfl; exact fun h => h
      apply oop; rfl; apply Pev.pick_and; rfl; exact yes; rfl; exact fun h => h
      apply oas; rfl; rfl
      apply oas; rfl; rfl
      apply OL.nx
      apply W.ret
      ((with_reducible apply At.fin2); rfl; rfl; rfl; intro w' hw')
      have hil := hnl trivial
      exact ⟨⟨(i : Int), by simp [hil, hnin]⟩, by (exact hw'.fr)⟩
end Go.Proofs.Ytehelljmaiophaa.ss

/- The walk of dom's Frontier. Conditions: none. -/
namespace Go.Ss
set_option linter.unusedVariables false
set_option linter.unusedSimpArgs false
open Go.Eng Go.RowKit
set_option linter.unusedVariables false
set_option linter.unusedSimpArgs false
def InF (G : List (List Int)) (a b : Nat) : Prop := ¬ (Dm G a b ∧ a ≠ b) ∧ ∃ q, Rc G (-1) q ∧ Edge G q b ∧ Dm G a q
open Classical in
noncomputable def frL (G : List (List Int)) (a : Nat) : List Int := ((List.range G.length).filter fun b => decide (Rc G (-1) a ∧ Rc G (-1) b ∧ InF G a b)).map fun b : Nat => (b : Int)
section
variable {G : List (List Int)} {o : Nat → Option Nat} {pl : Nat → Nat}
def FI (P : Nat → Nat → Prop) (f : Nat → List Int) : Prop := ∀ x, (f x).Nodup ∧ ∀ v, v ∈ f x ↔ ∃ y : Nat, v = (y : Int) ∧ P x y
theorem FI.congr {P P' : Nat → Nat → Prop} {f : Nat → List Int} (h : FI P f) (hp : ∀ x y, P' x y ↔ P x y) : FI P' f := fun x => ⟨(h x).1, fun v => ((h x).2 v).trans ⟨fun ⟨y, h1, h2⟩ => ⟨y, h1, (hp x y).2 h2⟩, fun ⟨y, h1, h2⟩ => ⟨y, h1, (hp x y).1 h2⟩⟩⟩
theorem FI.same {P P' : Nat → Nat → Prop} {f : Nat → List Int} {z y0 : Nat} (h : FI P f) (hm : (y0 : Int) ∈ f z) (hp : ∀ x y, P' x y ↔ P x y ∨ (x = z ∧ y = y0)) : FI P' f :=
  h.congr fun x y => by
    rw [hp]
    constructor
    · rintro (h1 | ⟨rfl, rfl⟩)
      · exact h1
      · obtain ⟨y', h1, h2⟩ := ((h x).2 _).1 hm
        obtain rfl : y = y' := by omega
        exact h2
    · exact .inl
theorem FI.add {P P' : Nat → Nat → Prop} {f : Nat → List Int} {z y0 : Nat} (h : FI P f) (hm : (y0 : Int) ∉ f z) (hp : ∀ x y, P' x y ↔ P x y ∨ (x = z ∧ y = y0)) : FI P' (fun k => if k = z then f z ++ [(y0 : Int)] else f k) := fun x => by
  by_cases e : x = z
  · subst e
    dsimp only
    rw [if_pos rfl]
    refine ⟨List.nodup_append.2 ⟨(h x).1, by simp, fun a ha b hb e => ?_⟩, fun v => ?_⟩
    · obtain rfl := List.mem_singleton.1 hb
      exact hm (e ▸ ha)
    · rw [List.mem_append, (h x).2 v, List.mem_singleton]
      constructor
      · rintro (⟨y, h1, h2⟩ | h1)
        · exact ⟨y, h1, (hp x y).2 (.inl h2)⟩
        · exact ⟨y0, h1, (hp x y0).2 (.inr ⟨rfl, rfl⟩)⟩
      · rintro ⟨y, h1, h2⟩
        rcases (hp x y).1 h2 with h3 | ⟨_, rfl⟩
        · exact .inl ⟨y, h1, h3⟩
        · exact .inr h1
  · dsimp only
    rw [if_neg e]
    refine ⟨(h x).1, fun v => ((h x).2 v).trans ⟨fun ⟨y, h1, h2⟩ => ⟨y, h1, (hp x y).2 (.inl h2)⟩, fun ⟨y, h1, h2⟩ => ⟨y, h1, ?_⟩⟩⟩
    rcases (hp x y).1 h2 with h3 | ⟨h3, _⟩
    · exact h3
    · exact absurd h3 e
def PA (G : List (List Int)) (o : Nat → Option Nat) (i x y : Nat) : Prop := ∃ a p, a < i ∧ Rc G (-1) a ∧ Edge G a y ∧ o y = some p ∧ An o x a ∧ ¬ An o x p
def PB (o : Nat → Option Nat) (l : List Int) (a x y : Nat) : Prop := ∃ p, (y : Int) ∈ l ∧ o y = some p ∧ An o x a ∧ ¬ An o x p
def PC (o : Nat → Option Nat) (a y0 z x y : Nat) : Prop := y = y0 ∧ An o x a ∧ ¬ An o x z
theorem PC.start {a y0 x y : Nat} : ¬ PC o a y0 a x y := fun ⟨_, h1, h2⟩ => h2 h1
theorem PC.step (hw : Wf G pl o) {a y0 z z' x y : Nat} (hz : o z = some z') (hza : An o z a) : PC o a y0 z' x y ↔ PC o a y0 z x y ∨ (x = z ∧ y = y0) := by
  unfold PC
  constructor
  · rintro ⟨rfl, h1, h2⟩
    by_cases h3 : An o x z
    · cases h3 with
      | refl => exact .inr ⟨rfl, rfl⟩
      | up h4 r =>
        rw [hz] at h4
        obtain rfl := Option.some.inj h4
        exact absurd r h2
    · exact .inl ⟨rfl, h1, h3⟩
  · rintro (⟨rfl, h1, h2⟩ | ⟨rfl, rfl⟩)
    · exact ⟨rfl, h1, fun h3 => h2 (.up hz h3)⟩
    · refine ⟨rfl, hza, fun h3 => ?_⟩
      have := h3.le hw
      have := (hw.wf _ _ hz).2.2.1
      omega
theorem PB.snoc {l : List Int} {a y0 p x y : Nat} (hp : o y0 = some p) : PB o (l ++ [(y0 : Int)]) a x y ↔ PB o l a x y ∨ PC o a y0 p x y := by
  unfold PB PC
  constructor
  · rintro ⟨p', h1, h2, h3, h4⟩
    rcases List.mem_append.1 h1 with h1 | h1
    · exact .inl ⟨p', h1, h2, h3, h4⟩
    · have h5 := List.mem_singleton.1 h1
      obtain rfl : y = y0 := by omega
      rw [hp] at h2
      obtain rfl := Option.some.inj h2
      exact .inr ⟨rfl, h3, h4⟩
  · rintro (⟨p', h1, h2, h3, h4⟩ | ⟨rfl, h1, h2⟩)
    · exact ⟨p', by simp [h1], h2, h3, h4⟩
    · exact ⟨p, by simp, hp, h1, h2⟩
theorem PA.succ {i x y : Nat} {l : List Int} (hl : G[i]? = some l) (hr : Rc G (-1) i) : PA G o (i + 1) x y ↔ PA G o i x y ∨ PB o l i x y := by
  unfold PA PB
  constructor
  · rintro ⟨a, p, h1, h2, h3, h4⟩
    by_cases e : a = i
    · subst e
      obtain ⟨l', h5, h6⟩ := h3
      rw [hl] at h5
      obtain rfl := Option.some.inj h5
      exact .inr ⟨p, h6, h4⟩
    · exact .inl ⟨a, p, by omega, h2, h3, h4⟩
  · rintro (⟨a, p, h1, h2⟩ | ⟨p, h1, h2⟩)
    · exact ⟨a, p, by omega, h2⟩
    · exact ⟨i, p, by omega, hr, ⟨l, hl, h1⟩, h2⟩
theorem PA.skip {i x y : Nat} (hr : ¬ Rc G (-1) i) : PA G o (i + 1) x y ↔ PA G o i x y := by
  unfold PA
  constructor
  · rintro ⟨a, p, h1, h2, h3⟩
    by_cases e : a = i
    · subst e; exact absurd h2 hr
    · exact ⟨a, p, by omega, h2, h3⟩
  · rintro ⟨a, p, h1, h2⟩
    exact ⟨a, p, by omega, h2⟩
theorem PA.zero {x y : Nat} : ¬ PA G o 0 x y := fun ⟨a, p, h, _⟩ => by omega
theorem pa_done (hord : OrdOk G pl) (he : EndR G pl o) (hd : ∀ a k, Rc G (-1) k → (An o a k ↔ Dm G a k)) (hE : ∀ a b, Edge G a b → b ≠ 0) (x y : Nat) : PA G o G.length x y ↔ Rc G (-1) x ∧ Rc G (-1) y ∧ InF G x y := by
  constructor
  · rintro ⟨a, p, h1, h2, h3, h4, h5, h6⟩
    have hy : Rc G (-1) y := .step h2 h3 (by omega) (hord.rng _ _ h3)
    have hx : Pr G o x := h5.pr he.w ⟨h2, by
      by_cases e : a = 0
      · exact .inl e
      · exact .inr (he.all a h2 e)⟩
    refine ⟨hx.1, hy, ?_, a, h2, h3, (hd x a h2).1 h5⟩
    rintro ⟨h7, h8⟩
    cases (hd x y hy).2 h7 with
    | refl => exact h8 rfl
    | up h9 r =>
      rw [h4] at h9
      obtain rfl := Option.some.inj h9
      exact h6 r
  · rintro ⟨hx, hy, h1, q, h2, h3, h4⟩
    obtain ⟨p, hp⟩ := Option.isSome_iff_exists.1 (he.all y hy (hE _ _ h3))
    refine ⟨q, p, h2.lt, h2, h3, hp, (hd x q h2).2 h4, fun h5 => h1 ⟨(hd x y hy).1 (.up hp h5), fun e => ?_⟩⟩
    subst e
    have := h5.le he.w
    have := (he.w.wf _ _ hp).2.2.1
    omega
theorem lt_of_nodup : ∀ {l : List Int}, l.Pairwise (· ≤ ·) → l.Nodup → l.Pairwise (· < ·)
  | [], _, _ => .nil
  | x :: l, h, hn => by
    obtain ⟨h1, h2⟩ := List.pairwise_cons.1 h
    obtain ⟨h3, h4⟩ := List.nodup_cons.1 hn
    refine .cons (fun y hy => ?_) (lt_of_nodup h2 h4)
    have := h1 y hy
    rcases Int.lt_or_eq_of_le this with h5 | h5
    · exact h5
    · exact absurd (h5 ▸ hy) h3
theorem frL_sorted (a : Nat) : (frL G a).Pairwise (· < ·) := by
  unfold frL
  rw [List.pairwise_map]
  exact (List.Pairwise.filter _ List.pairwise_lt_range).imp fun h => by omega
theorem frL_mem (a : Nat) (v : Int) : v ∈ frL G a ↔ ∃ y : Nat, v = (y : Int) ∧ Rc G (-1) a ∧ Rc G (-1) y ∧ InF G a y := by
  unfold frL
  simp only [List.mem_map, List.mem_filter, List.mem_range, decide_eq_true_eq]
  constructor
  · rintro ⟨y, ⟨_, h1⟩, h2⟩
    exact ⟨y, h2.symm, h1⟩
  · rintro ⟨y, h1, h2⟩
    exact ⟨y, ⟨h2.2.1.lt, h2⟩, h1.symm⟩
theorem fr_done (hord : OrdOk G pl) (he : EndR G pl o) (hd : ∀ a k, Rc G (-1) k → (An o a k ↔ Dm G a k)) (hE : ∀ a b, Edge G a b → b ≠ 0) {f : Nat → List Int} (hf : FI (PA G o G.length) f) (k : Nat) : isrt (f k) = frL G k := by
  refine sorted_eq (lt_of_nodup (isrt_sorted _) ((isrt_perm _).symm.nodup (hf k).1)) (frL_sorted k) fun v => ?_
  rw [isrt_mem, (hf k).2, frL_mem]
  constructor
  · rintro ⟨y, h1, h2⟩
    exact ⟨y, h1, (pa_done hord he hd hE k y).1 h2⟩
  · rintro ⟨y, h1, h2⟩
    exact ⟨y, h1, (pa_done hord he hd hE k y).2 h2⟩
theorem FI.len {P : Nat → Nat → Prop} {f : Nat → List Int} {n : Nat} (h : FI P f) (hP : ∀ x y, P x y → y < n) (x : Nat) : (f x).length ≤ n := by
  have := nodup_le (h x).1 (l := f x) (m := (List.range n).map fun k : Nat => (k : Int)) fun v hv => by
    obtain ⟨y, rfl, h2⟩ := ((h x).2 v).1 hv
    exact List.mem_map.2 ⟨y, List.mem_range.2 (hP x y h2), rfl⟩
  simpa using this
end
end Go.Ss
namespace Go.Proofs.Ytehelljmaiophaa.ss
set_option linter.unusedVariables false
set_option linter.unusedSimpArgs false
set_option maxRecDepth 100000
open Go.Eng Go.RowKit Go.Ss
set_option linter.unusedVariables false
set_option linter.unusedSimpArgs false
theorem DFrontier_calls (fn : Go.Ss.Fn) (y : FnY) (w : World) (hfn : FnOk w (low w) fn y) :
    Calls Try.prog 43 [.agg (fnC fn y).toArray].toArray w fun e w' => Ext w w' ∧ ((funcE fn ≠ 0 ∧ e = .returned (.tuple #[.slice none 0 0, .int .i64 (funcE fn)])) ∨ (funcE fn = 0 ∧ ∃ bO : Nat, e = .returned (.tuple #[.slice (some ⟨bO, 0, none⟩) fn.blocks.length fn.blocks.length, .int .i64 0]) ∧ bO < w'.heap.size ∧ ∀ k : Nat, k < fn.blocks.length → ∃ (q : Option Addr) (c : Nat), w'.cell? ⟨bO, k, none⟩ = some (.slice q (frL (graphB fn.blocks) k).length c) ∧ IntsO w' (low w') (frL (graphB fn.blocks) k) q)) := by
  have hfn0 := hfn
  obtain ⟨nm, bs⟩ := fn
  obtain ⟨q, cap⟩ := y
  have hbl := hfn.bl
  have hF : ∀ (H : List Eng.Item) (S : List World) (w2 : World), Cls H S w2 → w ∈ S → (∀ k, k < w.heap.size → NotOwned H k) → FnOk w2 (low w2) ⟨nm, bs⟩ ⟨q, cap⟩ := fun H S w2 hw2 hs hno => fnR.mono (hw2.up hs) (fnR.stab (hw2.same hs hno) hfn0)
  have hBu := fun w2 (H : List Eng.Item) (S : List World) hw2 hs hno => dbuild_calls ⟨nm, bs⟩ ⟨q, cap⟩ w2 (hF H S w2 hw2 hs hno)
  obtain ⟨er, her⟩ : ∃ er, funcE ⟨nm, bs⟩ = er := ⟨_, rfl⟩
  obtain ⟨G, hG⟩ : ∃ G, graphB bs = G := ⟨_, rfl⟩
  have hGl : G.length = bs.length := by rw [← hG]; simp [graphB]
  simp only [fnC, her, hG, ← hGl] at hBu ⊢
  refine enter Try.func43 rfl Try.ntmps43 rfl (Cls.start w) ?_
  (simp only [argEnv, Nat.zero_add, Nat.reduceAdd])
  apply W.sr
  apply OL.box; rfl; rfl; exact CellsL.agg; (intro bk hbk; simp only [AllLe, and_true] at hbk)
  apply oas; rfl; rfl
  apply oas; rfl; rfl
  apply OL.nsr
  apply oop; rfl; apply Pev.load_blkA; rfl; exact yes; exact .head _; rfl; exact Take.au
  revert bk
  intro b1 hb1x
  have hb1 : w.heap.size ≤ b1 := by first | exact hb1x | exact hb1x.1
  refine OL.frzD (C' := fun w0 => Cls [] [w0, w]) (fun w0 hc0 => (hc0.thin (.any (fun k hk => by rw [show k = b1 from hk]; exact ⟨hb1, trivial⟩) Thin.nil)).note) (fun w0 hc0 => ?_)
  have hb10 : b1 < w0.heap.size := blk_lt (hc0.item (.head _))
  have hw0 : w.heap.size ≤ w0.heap.size := (hc0.kp w (.head _)).size
  have hcF : CellsAt w0 ⟨b1, 0, none⟩ [.int .i64 nm, .slice q G.length cap] := fun j v hj => by
    rw [add_mid, blk_cell (hc0.item (.head _)), Nat.zero_add]
    exact hj
  by_cases hne : er ≠ 0
  · (((first | (with_reducible apply OL.op) | (with_reducible apply QL.op)); (exact Guard.au); rfl; rfl); (exact Pev.call (v := .tuple #[.agg #[.slice none 0 0, .slice none 0 0], .int .i64 er]) rfl (by exact Args.au) (fun _ w2 hw2 => (hBu w2 _ _ hw2 (by exact mau) (fun k hk => NotOwned.nil)).mono (fun e w3 h => ⟨by rcases h.2 with h2 | h2; exact h2.2; exact absurd h2.1 hne, hw2.ext h.1⟩))))
    apply omv; rfl; rfl
    apply oex; rfl; rfl; rfl
    apply oex; rfl; rfl; rfl
    apply OL.alloc; rfl; rfl; exact CellsL.agg; (intro bk hbk; simp only [AllLe, and_true] at hbk)
    apply OL.storeB; rfl; rfl; exact CellsL.agg; rfl; rfl; rfl; exact Swap.au; exact Put.au
    apply oas; rfl; rfl
    apply OL.nx
    apply W.seq
    apply W.sr
    apply omv; rfl; rfl
    apply obn; rfl; rfl; rfl; apply Bin.neq
    apply OL.nx
    revert bk
    intro b2 hb2x
    have hb2 : w0.heap.size ≤ b2 := by first | exact hb2x | exact hb2x.1
    skip
    refine W.cond rfl (fun _ => ?_) (fun h => by simp at h; exact absurd h hne)
    apply W.sr
    apply omv; rfl; rfl
    apply oas; rfl; rfl
    apply oas; rfl; rfl
    apply OL.nx
    refine W.rt ?_
    ((with_reducible apply At.fin2); rfl; rfl; rfl; intro w' hw')
    exact ⟨hw'.toExt (by exact mau) (fun k hk => NotOwned.blk (by omega) NotOwned.nil), .inl ⟨hne, rfl⟩⟩
  obtain rfl : er = 0 := Classical.not_not.1 hne
  obtain ⟨h0, h128, hs0⟩ := func_zero her
  simp only at h0 h128 hs0
  have hGE : ∀ l ∈ G, ∀ x ∈ l, 0 ≤ x ∧ x < (G.length : Int) := fun l hl x hx => by
    rw [← hG] at hl
    obtain ⟨b, hb, rfl⟩ := List.mem_map.1 hl
    obtain ⟨e, he, rfl⟩ := List.mem_map.1 hx
    have := shape_edges hs0 b hb e he
    omega
  have hG0 : 0 < G.length := by omega
  have hGn : G.length ≤ 128 := by omega
  have hord := ordOk hGE hG0
  refine OL.callE (α := (Nat × Nat × (Nat → Option Nat)) × World) (fun z => .tuple #[.agg #[.slice (some ⟨z.1.1, 0, none⟩) G.length G.length, .slice (some ⟨z.1.2.1, 0, none⟩) G.length G.length], .int .i64 0]) (fun z => Ext w z.2 ∧ Ext w0 z.2 ∧ IntsO z.2 (low z.2) (tabI G.length fun k => ovI (z.1.2.2 k)) (some ⟨z.1.1, 0, none⟩) ∧ IntsO z.2 (low z.2) (tabI G.length (plc0 G)) (some ⟨z.1.2.1, 0, none⟩) ∧ EndR G (plN G) z.1.2.2 ∧ ∀ a k, Rc G (-1) k → (An z.1.2.2 a k ↔ Dm G a k)) (fun z => Cls [] [z.2, w0, w]) rfl rfl (by exact Args.au) (fun w2 hw2 => (hBu w2 _ _ hw2 (by exact mau) (fun k hk => NotOwned.nil)).mono fun e w3 ⟨h2, h3⟩ => ?_) ?_
  · rcases h3 with ⟨h3, _⟩ | ⟨_, bI, bP, o, h4, h5, h6, h7⟩
    · exact absurd rfl h3
    · have hx := hw2.ext h2
      exact ⟨((bI, bP, o), w3), h4, ⟨hx.toExt (by exact mau) (fun k hk => NotOwned.nil), hx.toExt (by exact mau) (fun k hk => NotOwned.nil), h5.mono (fun k hk => hk.2), h6.mono (fun k hk => hk.2), h7⟩, hx.note⟩
  rintro ⟨⟨bI, bP, o⟩, wB⟩ ⟨hxB, hx0B, hII, hIP, hend, hdm⟩
  simp only at hxB hx0B hII hIP hend hdm ⊢
  have hbIB : bI < wB.heap.size := by
    obtain ⟨a, _, ha, hb, _⟩ := hII.get (i := 0) (by rw [tabI_length]; exact hG0)
    obtain rfl := Option.some.inj ha
    exact hb
  have hbPB : bP < wB.heap.size := by
    obtain ⟨a, _, ha, hb, _⟩ := hIP.get (i := 0) (by rw [tabI_length]; exact hG0)
    obtain rfl := Option.some.inj ha
    exact hb
  have hwB : w0.heap.size ≤ wB.heap.size := hx0B.size
  apply omv; rfl; rfl
  apply oex; rfl; rfl; rfl
  apply oex; rfl; rfl; rfl
  apply OL.alloc; rfl; rfl; exact CellsL.agg; (intro bk hbk; simp only [AllLe, and_true] at hbk)
  apply OL.storeB; rfl; rfl; exact CellsL.agg; rfl; rfl; rfl; exact Swap.au; exact Put.au
  apply oas; rfl; rfl
  apply OL.nx
  apply W.seq
  apply W.sr
  apply omv; rfl; rfl
  apply obn; rfl; rfl; rfl; apply Bin.neq
  apply OL.nx
  revert bk
  intro b2 hb2x
  have hb2 : wB.heap.size ≤ b2 := by first | exact hb2x | exact hb2x.1
  refine W.frzD (C' := fun wC => Cls [] [wC, wB, w0, w]) (fun wC hcC => (hcC.thin (.any (fun k hk => by rw [show k = b2 from hk]; exact ⟨hb2, Nat.le_trans hwB hb2, Nat.le_trans (Nat.le_trans hw0 hwB) hb2, trivial⟩) Thin.nil)).note) (fun wC hcC => ?_)
  have hb2C : b2 < wC.heap.size := blk_lt (hcC.item (.head _))
  have hcB : CellsAt wC ⟨b2, 0, none⟩ [.slice (some ⟨bI, 0, none⟩) G.length G.length, .slice (some ⟨bP, 0, none⟩) G.length G.length] := fun j v hj => by
    rw [add_mid, blk_cell (hcC.item (.head _)), Nat.zero_add]
    exact hj
  have hcB0 : wC.cell? ⟨b2, 0 + 0, none⟩ = some (.slice (some ⟨bI, 0, none⟩) G.length G.length) := hcB 0 _ rfl
  have hcB1 : wC.cell? ⟨b2, 0 + 1, none⟩ = some (.slice (some ⟨bP, 0, none⟩) G.length G.length) := hcB 1 _ rfl
  refine W.cond rfl (fun h => by simp at h) (fun _ => ?_)
  obtain ⟨es, hes, he⟩ := hfn0.b
  simp only at hes he hbl
  have hGes : G.length = es.length := by rw [hGl, ← hes, List.length_map]
  have hcF1 : w0.cell? ⟨b1, 0 + 1, none⟩ = some (.slice q G.length cap) := hcF 1 _ rfl
  have hE0 : ∀ a b, Go.Ss.Edge G a b → b ≠ 0 := fun a b ⟨l, h1, h2⟩ => by
    rw [← hG] at h1
    obtain ⟨bk, hbk, rfl⟩ := List.mem_map.1 (List.mem_of_getElem? h1)
    obtain ⟨e, he, h3⟩ := List.mem_map.1 h2
    have := shape_edges hs0 bk hbk e he
    omega
  apply W.sk
  apply W.sr
  apply ofa; rfl; rfl; rfl
  apply oop; rfl; apply Pev.load_kept; rfl; exact yes; exact .tail _ (.tail _ (.head _)); rfl; intro hcond; assumption; intro hcond; assumption; intro hcond; exact NotOwned.au
  apply oop; rfl; apply Pev.len_slice; rfl; exact yes; rfl
  apply OL.makeSlice; rfl; rfl; rfl; rfl; rfl; rfl; rfl; omega; (intro bk hbk; simp only [AllLe, and_true] at hbk)
  apply oas; rfl; rfl
  apply OL.nx
  apply W.seq
  apply W.sr
  apply ofa; rfl; rfl; rfl
  apply oop; rfl; apply Pev.load_kept; rfl; exact yes; exact .tail _ (.tail _ (.head _)); rfl; intro hcond; assumption; intro hcond; assumption; intro hcond; exact NotOwned.au
  apply oop; rfl; apply Pev.len_slice; rfl; exact yes; rfl
  apply omv; rfl; rfl
  apply OL.nx
  apply W.block
  revert bk
  intro bO hbOx
  have hbO : wC.heap.size ≤ bO := by first | exact hbOx | exact hbOx.1
  have hwC : wB.heap.size ≤ wC.heap.size := (hcC.kp wB (.head _)).size
  have hA : ∀ b, wC.heap.size ≤ b → AllLe [wC, wB, w0, w] b := fun b hb => ⟨hb, Nat.le_trans hwC hb, Nat.le_trans (Nat.le_trans hwB hwC) hb, Nat.le_trans (Nat.le_trans (Nat.le_trans hw0 hwB) hwC) hb, trivial⟩
  have hwBC : Ext wB wC := hcC.toExt (.head _) (fun k hk => NotOwned.blk (by omega) NotOwned.nil)
  have hedge : ∀ x y, PA G o G.length x y → y < G.length := fun x y ⟨a, p, _, _, h, _⟩ => hord.rng _ _ h
  rw [slC_zero]
  refine W.loop (G := Nat × List Rw) (fun g => g.1 ≤ G.length ∧ ∃ f, RwsOf g.2 G.length f ∧ FI (PA G o g.1) f) (fun g => G.length - g.1)
    (fun g => [(4, true, .pointer (some ⟨b2, 0, none⟩)), (6, true, .slice (some ⟨bO, 0, none⟩) G.length G.length), (27, true, .slice q G.length cap), (28, true, .int .i64 (G.length : Int)), (29, true, .int .i64 (g.1 : Int))])
    (fun g => Cls [rws wC.heap.size 3 1 (fun j => g.2[j]?), blk bO 35 (g.2.map slC)] [wC, wB, w0, w]) (0, List.replicate G.length ⟨fun _ => False, none, 0, 0, []⟩)
    ⟨by simp, fun _ => [], ⟨by simp, fun k r hr => by rw [(List.mem_replicate.1 (List.mem_of_getElem? hr)).2]; exact ⟨rfl, rfl⟩⟩, fun x => ⟨by simp, fun v => ⟨fun h => by simp at h, fun ⟨y, _, h⟩ => absurd h PA.zero⟩⟩⟩ (by exact Sub.au) (fun w' hw' => hw'.rws_new wC.heap.size 3 1 G.length) ?_
  rintro ⟨i, L⟩ ⟨hi, f, hL, hf⟩
  simp only at hi hL hf ⊢
  have hLl := hL.1
  apply W.sr
  apply obn; rfl; rfl; rfl; apply Bin.lss
  apply OL.nx
  apply W.seq
  (refine W.cnd (fun hlt => ?_) (fun hlt => ?_)) <;> (try (exfalso; first | omega | exact hlt trivial | contradiction))
  · have hil : i < es.length := by omega
    obtain ⟨a, p, hqa, hab, hp, hcell, hok⟩ := he.get hil
    have hab : a.block < w.heap.size := hab
    have hcell : CellsAt w (a.add (i * 7)) [.slice p.2.p.1 p.1.params.length p.2.p.2, .slice p.2.i.1 p.1.ins.length p.2.i.2, .int .i64 p.1.term.kind, .int .i64 p.1.term.arg, .int .i64 p.1.term.n, .slice p.2.t.c.1 p.1.term.cases.length p.2.t.c.2, .slice p.2.t.t.1 p.1.term.to_.length p.2.t.t.2] := hcell
    obtain ⟨ts, hts, harr⟩ := hok.t.t
    have htl2 : p.1.term.to_.length = ts.length := by rw [← hts, List.length_map]
    have hbm : bs[i]? = some p.1 := by rw [← hes]; simp [hp]
    have htl3 := to_len hs0 (List.mem_of_getElem? hbm)
    obtain ⟨l, hl⟩ : ∃ l, p.1.term.to_.map Ed.block = l := ⟨_, rfl⟩
    have hGi : G[i]? = some l := by rw [← hG, ← hl]; simp [graphB, hbm]
    have hll : l.length = ts.length := by rw [← hl, List.length_map, htl2]
    rw [hqa]
    apply W.sk
    apply W.sb
    apply W.sr
    apply omv; rfl; rfl
    apply oop; rfl; apply Pev.idx; rfl; exact yes; rfl; exact yes; rfl; rfl; intro hcond; omega
    apply oop; rfl; apply Pev.load_keptA; rfl; exact yes; exact .tail _ (.tail _ (.tail _ (.head _))); rfl; intro hcond; assumption; rfl; intro hcond; (rw [add_block]; assumption); intro hcond; (focus ((try simp only [add_block]); (repeat (first | exact NotOwned.nil | exact hno _ (by omega) | refine NotOwned.blk (by omega) ?_ | refine NotOwned.row (by omega) ?_ | refine NotOwned.rws (by omega) ?_ | refine NotOwned.pile (by omega) ?_)); done))
    apply OL.alloc; rfl; rfl; exact CellsL.agg; (intro bk hbk; simp only [AllLe, and_true] at hbk)
    apply oas; rfl; rfl
    apply OL.storeB; rfl; rfl; exact CellsL.agg; rfl; rfl; rfl; exact Swap.au; exact Put.au
    apply OL.nx
    apply W.seq
    apply W.sr
    apply ofa; rfl; rfl; rfl
    apply oop; rfl; apply Pev.load_kept; rfl; exact yes; exact .head _; rfl; intro hcond; assumption; intro hcond; assumption; intro hcond; (focus ((try simp only [add_block]); (repeat (first | exact NotOwned.nil | exact hno _ (by omega) | refine NotOwned.blk (by omega) ?_ | refine NotOwned.row (by omega) ?_ | refine NotOwned.rws (by omega) ?_ | refine NotOwned.pile (by omega) ?_)); done))
    apply omv; rfl; rfl
    apply oop; rfl; apply Pev.idxB; rfl; exact yes; rfl; exact yes; rfl; intro hcond; omega; rfl
    revert bk
    intro b8 hb8x
    have hb8 : wC.heap.size ≤ b8 := by first | exact hb8x | exact hb8x.1
    obtain ⟨a5, v5, hq5, hab5, hv5, hc5⟩ := hIP.get (show i < (tabI G.length (plc0 G)).length by rw [tabI_length]; omega)
    rw [tabI_get (by omega)] at hv5
    obtain rfl := Option.some.inj hv5
    obtain rfl := Option.some.inj hq5
    rw [add_mid] at hc5
    have e5 := plc0_iff hGE hG0 i
    apply oop; rfl; apply Pev.load_kept; rfl; exact yes; exact .tail _ (.head _); rfl; intro hcond; assumption; intro hcond; assumption; intro hcond; (focus ((try simp only [add_block]); (repeat (first | exact NotOwned.nil | exact hno _ (by omega) | refine NotOwned.blk (by omega) ?_ | refine NotOwned.row (by omega) ?_ | refine NotOwned.rws (by omega) ?_ | refine NotOwned.pile (by omega) ?_)); done))
    apply obn; rfl; rfl; rfl; apply Bin.lss
    apply OL.nx
    (refine W.cnd (fun hpl => ?_) (fun hpl => ?_)) <;> (try (exfalso; first | omega | exact hpl trivial | contradiction))
    · have hnr : ¬ Rc G (-1) i := by rw [← e5]; omega
      refine W.xt ?_
      with_reducible apply At.next
      apply W.reg
      apply obn; rfl; rfl; rfl; apply Bin.add_in; omega
      apply omv; rfl; rfl
      apply OL.nil
      refine At.again (i + 1, L) ⟨by simp only; omega, f, hL, hf.congr fun x y => PA.skip hnr⟩ (by simp only; omega) (by exact Sub.au) (fun w' hw' => hw'.thin (.any (fun k hk => by rw [show k = b8 from hk]; exact hA b8 hb8) (.keep (.keep Thin.nil))))
    have hri : Rc G (-1) i := by rw [← e5]; omega
    apply W.sk
    apply W.sr
    apply ofa; rfl; rfl; rfl
    apply ofa; rfl; rfl; rfl
    apply old; rfl; rfl; exact .head _; rfl; rfl
    apply oop; rfl; apply Pev.len_slice; rfl; exact yes; rfl
    apply omv; rfl; rfl
    apply OL.nx
    apply W.block
    rw [htl2]
    refine W.loop (G := Nat × List Rw) (fun g => g.1 ≤ ts.length ∧ ∃ f, RwsOf g.2 G.length f ∧ FI (fun x y => PA G o i x y ∨ PB o (l.take g.1) i x y) f) (fun g => ts.length - g.1)
      (fun g => [(4, true, .pointer (some ⟨b2, 0, none⟩)), (6, true, .slice (some ⟨bO, 0, none⟩) G.length G.length), (7, true, .int .i64 (i : Int)), (27, true, .slice (some a) G.length cap), (28, true, .int .i64 (G.length : Int)), (29, true, .int .i64 (i : Int)), (42, true, .slice p.2.t.t.1 ts.length p.2.t.t.2), (43, true, .int .i64 (ts.length : Int)), (44, true, .int .i64 (g.1 : Int))])
      (fun g => Cls [rws wC.heap.size 3 1 (fun j => g.2[j]?), blk bO 35 (g.2.map slC)] [wC, wB, w0, w]) (0, L)
      ⟨by simp, f, hL, hf.congr fun x y => by simp [PB]⟩ (by exact Sub.au) (fun w' hw' => hw'.thin (.any (fun k hk => by rw [show k = b8 from hk]; exact hA b8 hb8) (.keep (.keep Thin.nil)))) ?_
    clear hLl hf hL
    rintro ⟨j, L⟩ ⟨hj, f, hL, hf⟩
    simp only at hj hL hf ⊢
    apply W.sr
    apply obn; rfl; rfl; rfl; apply Bin.lss
    apply OL.nx
    apply W.seq
    (refine W.cnd (fun hlt2 => ?_) (fun hlt2 => ?_)) <;> (try (exfalso; first | omega | exact hlt2 trivial | contradiction))
    · have hjl : j < ts.length := by omega
      obtain ⟨ae, u, hqt, hatb, hu, hcu, hoku⟩ := harr.get hjl
      have hatb : ae.block < w.heap.size := hatb
      have hcu : CellsAt w (ae.add (j * 2)) [.int .i64 u.1.block, .slice u.2.1 u.1.args.length u.2.2] := hcu
      have hlj : l[j]? = some u.1.block := by rw [← hl, ← hts]; simp [hu]
      obtain ⟨y0, hy0⟩ : ∃ y0 : Nat, u.1.block = (y0 : Int) := ⟨u.1.block.toNat, by have := hGE l (List.mem_of_getElem? hGi) u.1.block (List.mem_of_getElem? hlj); omega⟩
      rw [hy0] at hcu hlj
      have hey : Go.Ss.Edge G i y0 := ⟨l, hGi, List.mem_of_getElem? hlj⟩
      have hyr : Rc G (-1) y0 := .step hri hey (by omega) (hord.rng _ _ hey)
      have hyl := hyr.lt
      obtain ⟨p0, hp0⟩ := Option.isSome_iff_exists.1 (hend.all y0 hyr (hE0 _ _ hey))
      have hp0i : An o p0 i := by
        have h1 := (hdm p0 y0 hyr).1 (An.one hp0)
        have h2 := (hend.w.wf _ _ hp0).2.2.1
        exact (hdm p0 i hri).2 (h1.pred (fun e => by rw [e] at h2; omega) hyr hey)
      have htk : l.take (j + 1) = l.take j ++ [(y0 : Int)] := by rw [List.take_add_one, hlj]; rfl
      obtain ⟨a6, v6, hq6, hab6, hv6, hc6⟩ := hII.get (show y0 < (tabI G.length fun k => ovI (o k)).length by rw [tabI_length]; exact hyr.lt)
      rw [tabI_get hyr.lt, hp0] at hv6
      obtain rfl := Option.some.inj hv6
      obtain rfl := Option.some.inj hq6
      rw [add_mid, ovI_some] at hc6
      rw [hqt]
      apply W.sk
      apply W.sb
      apply W.sr
      apply oop; rfl; apply Pev.idx; rfl; exact yes; rfl; exact yes; rfl; rfl; intro hcond; omega
      apply oop; rfl; apply Pev.load_keptA; rfl; exact yes; exact .tail _ (.tail _ (.tail _ (.head _))); rfl; intro hcond; assumption; rfl; intro hcond; (rw [add_block]; assumption); intro hcond; (focus ((try simp only [add_block]); (repeat (first | exact NotOwned.nil | exact hno _ (by omega) | refine NotOwned.blk (by omega) ?_ | refine NotOwned.row (by omega) ?_ | refine NotOwned.rws (by omega) ?_ | refine NotOwned.pile (by omega) ?_)); done))
      apply OL.alloc; rfl; rfl; exact CellsL.agg; (intro bk hbk; simp only [AllLe, and_true] at hbk)
      apply OL.storeB; rfl; rfl; exact CellsL.agg; rfl; rfl; rfl; exact Swap.au; exact Put.au
      apply OL.nsr
      apply omv; rfl; rfl
      apply oas; rfl; rfl
      apply OL.nx
      apply W.block
      revert bk
      intro b10 hb10x
      have hb10 : wC.heap.size ≤ b10 := by first | exact hb10x | exact hb10x.1
      skip
      refine W.loop (G := Nat × List Rw) (fun g => (An o g.1 i ∧ An o p0 g.1) ∧ ∃ f, RwsOf g.2 G.length f ∧ FI (fun x y => (PA G o i x y ∨ PB o (l.take j) i x y) ∨ PC o i y0 g.1 x y) f) (fun g => plN G g.1)
        (fun g => [(4, true, .pointer (some ⟨b2, 0, none⟩)), (6, true, .slice (some ⟨bO, 0, none⟩) G.length G.length), (7, true, .int .i64 (i : Int)), (10, true, .pointer (some ⟨b10, 0, none⟩)), (11, true, .int .i64 (g.1 : Int)), (27, true, .slice (some a) G.length cap), (28, true, .int .i64 (G.length : Int)), (29, true, .int .i64 (i : Int)), (42, true, .slice (some ae) ts.length p.2.t.t.2), (43, true, .int .i64 (ts.length : Int)), (44, true, .int .i64 (j : Int))])
        (fun g => Cls [rws wC.heap.size 3 1 (fun j => g.2[j]?), blk b10 105 [.int .i64 (y0 : Int), .slice u.2.1 u.1.args.length u.2.2], blk bO 35 (g.2.map slC)] [wC, wB, w0, w]) (i, L)
        ⟨⟨.refl, hp0i⟩, f, hL, hf.congr fun x y => ⟨fun h => h.resolve_right PC.start, .inl⟩⟩ (by exact Sub.au) (fun w' hw' => hw'.flip) ?_
      clear hf hL
      rintro ⟨z, L⟩ ⟨⟨hzi, hpz⟩, f, hL, hf⟩
      simp only at hzi hpz hL hf ⊢
      apply W.seq
      apply W.sr
      apply omv; rfl; rfl
      apply obn; rfl; rfl; rfl; apply Bin.geq
      apply omv; rfl; rfl
      apply oy; rfl; rfl; rfl; apply Pev.move; rfl; exact yes
      apply oy; rfl; rfl; rfl; apply Pev.fld; rfl; exact yes; rfl
      apply oy; rfl; rfl; rfl; apply Pev.load_kept; rfl; exact yes; exact .head _; rfl; intro hcond; assumption; intro hcond; assumption; intro hcond; (focus ((try simp only [add_block]); (repeat (first | exact NotOwned.nil | exact hno _ (by omega) | refine NotOwned.blk (by omega) ?_ | refine NotOwned.row (by omega) ?_ | refine NotOwned.rws (by omega) ?_ | refine NotOwned.pile (by omega) ?_)); done))
      apply oy; rfl; rfl; rfl; apply Pev.fld; rfl; exact yes; rfl
      apply oy; rfl; rfl; rfl; apply Pev.load_blk; rfl; exact yes; exact .tail _ (.head _); rfl; rfl
      apply oy; rfl; rfl; rfl; apply Pev.idxB; rfl; exact yes; rfl; exact yes; rfl; intro hcond; omega; rfl
      apply oy; rfl; rfl; rfl; apply Pev.load_kept; rfl; exact yes; exact .tail _ (.head _); rfl; intro hcond; assumption; intro hcond; assumption; intro hcond; (focus ((try simp only [add_block]); (repeat (first | exact NotOwned.nil | exact hno _ (by omega) | refine NotOwned.blk (by omega) ?_ | refine NotOwned.row (by omega) ?_ | refine NotOwned.rws (by omega) ?_ | refine NotOwned.pile (by omega) ?_)); done))
      apply oy; rfl; rfl; rfl; apply Pev.bin; rfl; exact yes; rfl; exact yes; intro hcond; apply Bin.neq
      apply oop; rfl; apply Pev.pick_and; rfl; exact yes; rfl; exact yes
      apply OL.nx
      refine W.cond rfl (fun h3 => ?_) (fun h3 => ?_)
      · have hzp : z ≠ p0 := fun e => by rw [e] at h3; simp at h3
        obtain ⟨z', hoz, hpz'⟩ : ∃ z', o z = some z' ∧ An o p0 z' := by
          cases hpz with
          | refl => exact absurd rfl hzp
          | up h4 r => exact ⟨_, h4, r⟩
        obtain ⟨hzr, hz'r, hzl', _⟩ := hend.w.wf _ _ hoz
        have hzl := hzr.lt
        obtain ⟨a7, v7, hq7, hab7, hv7, hc7⟩ := hII.get (show z < (tabI G.length fun k => ovI (o k)).length by rw [tabI_length]; exact hzl)
        rw [tabI_get hzl, hoz] at hv7
        obtain rfl := Option.some.inj hv7
        obtain rfl := Option.some.inj hq7
        rw [add_mid, ovI_some] at hc7
        obtain ⟨⟨Or, qr, mr, cr, xr⟩, hr⟩ : ∃ r, L[z]? = some r := ⟨_, List.getElem?_eq_getElem (by rw [hL.1]; exact hzl)⟩
        obtain ⟨hrx, hrm⟩ := hL.2 z _ hr
        simp only at hrx hrm
        subst hrx hrm
        have hlen : (f z).length ≤ G.length := hf.len (fun x y hxy => by
          rcases hxy with (⟨a, p, _, _, h, _⟩ | ⟨p, h, _⟩) | ⟨rfl, _⟩
          · exact hord.rng _ _ h
          · exact hord.rng _ _ ⟨l, hGi, List.mem_of_mem_take h⟩
          · exact hyl) z
        have hrv : (L.map slC)[0 + (z : Int).toNat * 1]? = some (.slice qr (f z).length cr) := by
          rw [show 0 + (z : Int).toNat * 1 = z by omega, List.getElem?_map, hr]
          rfl
        have hstep : ∀ x y, ((PA G o i x y ∨ PB o (l.take j) i x y) ∨ PC o i y0 z' x y) ↔ ((PA G o i x y ∨ PB o (l.take j) i x y) ∨ PC o i y0 z x y) ∨ (x = z ∧ y = y0) := fun x y => by rw [PC.step hend.w hoz hzi, or_assoc, or_assoc, or_assoc]
        have hzi' : An o z' i := (An.one hoz).trans hzi
        refine W.cls (C' := Cls [row wC.heap.size Or qr (f z).length cr 3 1 (ints (f z)), rws wC.heap.size 3 1 (fout L z), blk b10 105 [.int .i64 (y0 : Int), .slice u.2.1 u.1.args.length u.2.2], blk bO 35 (L.map slC)] [wC, wB, w0, w]) (fun w' hw' => hw'.rws_out hr) ?_
        apply W.sk
        apply W.sb
        apply W.seq
        apply W.regd0; decide +kernel; kernel_rfl; decide +kernel; exact fun w hw => hw.drew
        apply qmv; rfl; rfl
        apply qmv; rfl; rfl
        apply qop; rfl; apply Pev.idxB; rfl; exact yes; rfl; exact yes; rfl; intro hcond; omega; rfl
        apply qop; rfl; apply Pev.load_blk; rfl; exact yes; apply List.Mem.tail; exact .tail _ (.tail _ (.head _)); rfl; assumption
        apply qfa; rfl; rfl; rfl
        apply qld; rfl; rfl; exact .tail _ (.tail _ (.head _)); rfl; rfl
        (((first | (with_reducible apply OL.op) | (with_reducible apply QL.op)); (exact Guard.au); rfl; rfl); (exact Pev.call (v := .bool (decide ((y0 : Int) ∈ f z))) rfl (by exact Args.au) (fun _ w2 hw2 => (IContains_calls qr cr (f z) (y0 : Int) w2 (by omega) (rowIntsL hw2 (.head _))).mono (fun e w3 h => ⟨h.1, hw2.ext h.2⟩))))
        apply qop; rfl; apply Pev.not; rfl; exact yes
        apply QL.nil
        with_reducible apply At.next
        by_cases hmem : (y0 : Int) ∈ f z
        · refine W.cond rfl (fun h => by simp [hmem] at h) (fun _ => ?_)
          apply W.skip
          with_reducible apply At.in_normal
          with_reducible apply At.next
          apply W.reg
          apply ofa; rfl; rfl; rfl
          apply oop; rfl; apply Pev.load_kept; rfl; exact yes; exact .head _; rfl; intro hcond; assumption; intro hcond; assumption; intro hcond; (focus ((try simp only [add_block]); (repeat (first | exact NotOwned.nil | exact hno _ (by omega) | refine NotOwned.blk (by omega) ?_ | refine NotOwned.row (by omega) ?_ | refine NotOwned.rws (by omega) ?_ | refine NotOwned.pile (by omega) ?_)); done))
          apply omv; rfl; rfl
          apply oop; rfl; apply Pev.idxB; rfl; exact yes; rfl; exact yes; rfl; intro hcond; omega; rfl
          apply oop; rfl; apply Pev.load_kept; rfl; exact yes; exact .tail _ (.head _); rfl; intro hcond; assumption; intro hcond; assumption; intro hcond; (focus ((try simp only [add_block]); (repeat (first | exact NotOwned.nil | exact hno _ (by omega) | refine NotOwned.blk (by omega) ?_ | refine NotOwned.row (by omega) ?_ | refine NotOwned.rws (by omega) ?_ | refine NotOwned.pile (by omega) ?_)); done))
          apply oas; rfl; rfl
          apply OL.nil
          refine At.again (z', L) ⟨⟨hzi', hpz'⟩, f, hL, hf.same hmem hstep⟩ (by simp only; omega) (by exact Sub.au) (fun w' hw' => ?_)
          have h9 := hw'.rws_in (by rw [hL.1]; exact hzl)
          rwa [set_same hr] at h9
        · refine W.cond rfl (fun _ => ?_) (fun h => by simp [hmem] at h)
          skip
          refine W.regany (X := XP5 [wC, wB, w0, w]) (fun x e => [(84, true, bif e 10 then .pointer (some ⟨bO, 0 + (z : Int).toNat * 1, none⟩) else x.old 84), (83, true, bif e 9 then .slice (some ⟨x.g1, 0, none⟩) ((f z).length + 1) x.c1 else x.old 83), (82, true, bif e 8 then .slice (some ⟨x.b1, 0, none⟩) 1 1 else x.old 82), (81, true, bif e 7 then .int .i64 (y0 : Int) else x.old 81), (80, true, bif e 6 then .pointer (some ⟨b10, 0 + 0, none⟩) else x.old 80), (79, true, bif e 5 then .slice qr (f z).length cr else x.old 79), (78, true, bif e 4 then .pointer (some ⟨bO, 0 + (z : Int).toNat * 1, none⟩) else x.old 78), (77, true, bif e 3 then .int .i64 (z : Int) else x.old 77), (76, true, bif e 2 then .slice (some ⟨bO, 0, none⟩) G.length G.length else x.old 76), (75, true, bif e 1 then .int .i64 (z : Int) else x.old 75), (74, true, bif e 0 then .slice (some ⟨bO, 0, none⟩) G.length G.length else x.old 74), (4, true, .pointer (some ⟨b2, 0, none⟩)), (6, true, .slice (some ⟨bO, 0, none⟩) G.length G.length), (7, true, .int .i64 (i : Int)), (10, true, .pointer (some ⟨b10, 0, none⟩)), (11, true, .int .i64 (z : Int)), (27, true, .slice (some a) G.length cap), (28, true, .int .i64 (G.length : Int)), (29, true, .int .i64 (i : Int)), (42, true, .slice (some ae) ts.length p.2.t.t.2), (43, true, .int .i64 (ts.length : Int)), (44, true, .int .i64 (j : Int))])
            (fun x e => (bif e 9 then row wC.heap.size x.O1 (some ⟨x.g1, 0, none⟩) ((f z).length + 1) x.c1 3 1 (ints (f z) ++ [.int .i64 (y0 : Int)]) else row wC.heap.size Or qr (f z).length cr 3 1 (ints (f z))) :: (rws wC.heap.size 3 1 (fout L z)) :: (blk b10 105 [.int .i64 (y0 : Int), .slice u.2.1 u.1.args.length u.2.2]) :: (blk bO 35 (bif e 11 then (L.map slC).set (0 + (z : Int).toNat * 1) (.slice (some ⟨x.g1, 0, none⟩) ((f z).length + 1) x.c1) else L.map slC)) :: (bif e 8 then blk x.b1 3 [.int .i64 (y0 : Int)] else nothing) :: [])
            (fun old => ⟨wC.heap.size, hA _ (Nat.le_refl _), 0, 0, fun _ => False, old⟩) (by kernel_rfl) (by kernel_rfl) (fun w hw => hw.drew) (fun old => by repeat (first | exact SubO.nil | apply SubO.cons rfl | refine SubO.old rfl ?_)) (fun old w' hw' => hw'.add_nothing) ?_ ?_
          · intro x e i o ho hei hd hcl
            have hi : i < 12 := (List.getElem?_eq_some_iff.1 ho).1
            obtain rfl | rfl | rfl | rfl | rfl | rfl | rfl | rfl | rfl | rfl | rfl | rfl : i = 0 ∨ i = 1 ∨ i = 2 ∨ i = 3 ∨ i = 4 ∨ i = 5 ∨ i = 6 ∨ i = 7 ∨ i = 8 ∨ i = 9 ∨ i = 10 ∨ i = 11 := by omega
            · cases ho
              have v0 : Eng.upd e 0 0 = true := upd_eq
              simp only [hei, cond_true, cond_false]
              apply omv; rfl; rfl
              apply OL.nil
              exact At.beside x (by repeat (first | exact Sub.nil | apply Sub.cons rfl | refine Sub.cons_eq rfl (by simp only [v0, cond_true, cond_false]) ?_)) (fun w' hw' => by first | exact hw' | (simp only [v0, cond_true, cond_false]; exact hw'))
            · cases ho
              have v1 : Eng.upd e 1 1 = true := upd_eq
              simp only [hei, cond_true, cond_false]
              apply omv; rfl; rfl
              apply OL.nil
              exact At.beside x (by repeat (first | exact Sub.nil | apply Sub.cons rfl | refine Sub.cons_eq rfl (by simp only [v1, cond_true, cond_false]) ?_)) (fun w' hw' => by first | exact hw' | (simp only [v1, cond_true, cond_false]; exact hw'))
            · cases ho
              have v2 : Eng.upd e 2 2 = true := upd_eq
              simp only [hei, cond_true, cond_false]
              apply omv; rfl; rfl
              apply OL.nil
              exact At.beside x (by repeat (first | exact Sub.nil | apply Sub.cons rfl | refine Sub.cons_eq rfl (by simp only [v2, cond_true, cond_false]) ?_)) (fun w' hw' => by first | exact hw' | (simp only [v2, cond_true, cond_false]; exact hw'))
            · cases ho
              have v3 : Eng.upd e 3 3 = true := upd_eq
              simp only [hei, cond_true, cond_false]
              apply omv; rfl; rfl
              apply OL.nil
              exact At.beside x (by repeat (first | exact Sub.nil | apply Sub.cons rfl | refine Sub.cons_eq rfl (by simp only [v3, cond_true, cond_false]) ?_)) (fun w' hw' => by first | exact hw' | (simp only [v3, cond_true, cond_false]; exact hw'))
            · cases ho
              have h2 : e 2 = true := hd ⟨2, .data⟩ (by simp) rfl
              have h3 : e 3 = true := hd ⟨3, .data⟩ (by simp) rfl
              have v4 : Eng.upd e 4 4 = true := upd_eq
              have v2 : Eng.upd e 4 2 = true := upd_mono h2
              have v3 : Eng.upd e 4 3 = true := upd_mono h3
              simp only [hei, h2, h3, cond_true, cond_false]
              apply oop; rfl; apply Pev.idxB; rfl; exact yes; rfl; exact yes; rfl; intro hcond; omega; rfl
              apply OL.nil
              exact At.beside x (by repeat (first | exact Sub.nil | apply Sub.cons rfl | refine Sub.cons_eq rfl (by simp only [v4, v2, v3, cond_true, cond_false]) ?_)) (fun w' hw' => by first | exact hw' | (simp only [v4, v2, v3, cond_true, cond_false]; exact hw'))
            · cases ho
              have h4 : e 4 = true := hd ⟨4, .data⟩ (by simp) rfl
              have h11 : e 11 = false := hcl.not (i := 5) (j := 11) rfl hei (by kernel_rfl)
              have v5 : Eng.upd e 5 5 = true := upd_eq
              have v4 : Eng.upd e 5 4 = true := upd_mono h4
              have v11 : Eng.upd e 5 11 = false := h11
              simp only [hei, h4, h11, cond_true, cond_false]
              apply oop; rfl; apply Pev.load_blk; rfl; exact yes; apply List.Mem.tail; exact .tail _ (.tail _ (.head _)); rfl; assumption
              apply OL.nil
              exact At.beside x (by repeat (first | exact Sub.nil | apply Sub.cons rfl | refine Sub.cons_eq rfl (by simp only [v5, v4, v11, cond_true, cond_false]) ?_)) (fun w' hw' => by first | exact hw' | (simp only [v5, v4, v11, cond_true, cond_false]; exact hw'))
            · cases ho
              have v6 : Eng.upd e 6 6 = true := upd_eq
              simp only [hei, cond_true, cond_false]
              apply ofa; rfl; rfl; rfl
              apply OL.nil
              exact At.beside x (by repeat (first | exact Sub.nil | apply Sub.cons rfl | refine Sub.cons_eq rfl (by simp only [v6, cond_true, cond_false]) ?_)) (fun w' hw' => by first | exact hw' | (simp only [v6, cond_true, cond_false]; exact hw'))
            · cases ho
              have h6 : e 6 = true := hd ⟨6, .data⟩ (by simp) rfl
              have v7 : Eng.upd e 7 7 = true := upd_eq
              have v6 : Eng.upd e 7 6 = true := upd_mono h6
              simp only [hei, h6, cond_true, cond_false]
              apply old; rfl; rfl; exact .tail _ (.tail _ (.head _)); rfl; rfl
              apply OL.nil
              exact At.beside x (by repeat (first | exact Sub.nil | apply Sub.cons rfl | refine Sub.cons_eq rfl (by simp only [v7, v6, cond_true, cond_false]) ?_)) (fun w' hw' => by first | exact hw' | (simp only [v7, v6, cond_true, cond_false]; exact hw'))
            · cases ho
              have h7 : e 7 = true := hd ⟨7, .data⟩ (by simp) rfl
              have v8 : Eng.upd e 8 8 = true := upd_eq
              have v7 : Eng.upd e 8 7 = true := upd_mono h7
              simp only [hei, h7, cond_true, cond_false]
              apply OL.buildSlice; rfl; rfl; rfl; exact Elems.au; rfl; rfl; (intro bk hbk; simp only [AllLe, and_true] at hbk)
              apply OL.nil
              exact At.beside { x with b1 := bk, hb1 := hA bk (by first | exact hbk | exact hbk.1) } (by repeat (first | exact Sub.nil | apply Sub.cons rfl | refine Sub.cons_eq rfl (by simp only [v8, v7, cond_true, cond_false]) ?_)) (fun w' hw' => by simp only [v8, v7, cond_true, cond_false]; exact Cls.fill (p := 4) (H := _ :: _ :: _ :: _ :: _ :: []) (.s (.s (.s (.s .z)))) hw')
            · cases ho
              have h5 : e 5 = true := hd ⟨5, .data⟩ (by simp) rfl
              have h8 : e 8 = true := hd ⟨8, .data⟩ (by simp) rfl
              have h11 : e 11 = false := hcl.not (i := 9) (j := 11) rfl hei (by kernel_rfl)
              have v9 : Eng.upd e 9 9 = true := upd_eq
              have v5 : Eng.upd e 9 5 = true := upd_mono h5
              have v8 : Eng.upd e 9 8 = true := upd_mono h8
              have v11 : Eng.upd e 9 11 = false := h11
              simp only [hei, h5, h8, h11, cond_true, cond_false]
              apply OL.append; rfl; rfl; rfl; rfl; exact Hole.au; apply List.Mem.tail; apply List.Mem.tail; exact .tail _ (.tail _ (.head _)); exact Take.au; rfl; rfl; exact ⟨_, .head _, Nat.le_refl _⟩; omega; intro O1 g1 cap1
              apply OL.nil
              exact At.beside { x with g1 := g1, c1 := cap1, O1 := O1 } (by repeat (first | exact Sub.nil | apply Sub.cons rfl | refine Sub.cons_eq rfl (by simp only [v9, v5, v8, v11, cond_true, cond_false]) ?_)) (fun w' hw' => by first | exact hw' | (simp only [v9, v5, v8, v11, cond_true, cond_false]; exact hw'))
            · cases ho
              have h0 : e 0 = true := hd ⟨0, .data⟩ (by simp) rfl
              have h1 : e 1 = true := hd ⟨1, .data⟩ (by simp) rfl
              have v10 : Eng.upd e 10 10 = true := upd_eq
              have v0 : Eng.upd e 10 0 = true := upd_mono h0
              have v1 : Eng.upd e 10 1 = true := upd_mono h1
              simp only [hei, h0, h1, cond_true, cond_false]
              apply oop; rfl; apply Pev.idxB; rfl; exact yes; rfl; exact yes; rfl; intro hcond; omega; rfl
              apply OL.nil
              exact At.beside x (by repeat (first | exact Sub.nil | apply Sub.cons rfl | refine Sub.cons_eq rfl (by simp only [v10, v0, v1, cond_true, cond_false]) ?_)) (fun w' hw' => by first | exact hw' | (simp only [v10, v0, v1, cond_true, cond_false]; exact hw'))
            · cases ho
              have h9 : e 9 = true := hd ⟨9, .data⟩ (by simp) rfl
              have h10 : e 10 = true := hd ⟨10, .data⟩ (by simp) rfl
              have v11 : Eng.upd e 11 11 = true := upd_eq
              have v9 : Eng.upd e 11 9 = true := upd_mono h9
              have v10 : Eng.upd e 11 10 = true := upd_mono h10
              simp only [hei, h9, h10, cond_true, cond_false]
              apply OL.storeI
              rfl
              rfl
              rfl
              rfl
              rfl
              exact Swap.au
              · rw [List.length_map, hL.1]; omega
              apply OL.nil
              exact At.beside x (by repeat (first | exact Sub.nil | apply Sub.cons rfl | refine Sub.cons_eq rfl (by simp only [v11, v9, v10, cond_true, cond_false]) ?_)) (fun w' hw' => by first | exact hw' | (simp only [v11, v9, v10, cond_true, cond_false]; exact hw'))
          intro x e hall
          simp only [hall 0 (by decide), hall 1 (by decide), hall 2 (by decide), hall 3 (by decide), hall 4 (by decide), hall 5 (by decide), hall 6 (by decide), hall 7 (by decide), hall 8 (by decide), hall 9 (by decide), hall 10 (by decide), hall 11 (by decide), cond_true, cond_false]
          have hx1a : wC.heap.size ≤ x.b1 := x.hb1.1
          with_reducible apply At.in_normal
          with_reducible apply At.next
          apply W.reg
          apply ofa; rfl; rfl; rfl
          apply oop; rfl; apply Pev.load_kept; rfl; exact yes; exact .head _; rfl; intro hcond; assumption; intro hcond; assumption; intro hcond; (focus ((try simp only [add_block]); (repeat (first | exact NotOwned.nil | exact hno _ (by omega) | refine NotOwned.blk (by omega) ?_ | refine NotOwned.row (by omega) ?_ | refine NotOwned.rws (by omega) ?_ | refine NotOwned.pile (by omega) ?_)); done))
          apply omv; rfl; rfl
          apply oop; rfl; apply Pev.idxB; rfl; exact yes; rfl; exact yes; rfl; intro hcond; omega; rfl
          apply oop; rfl; apply Pev.load_kept; rfl; exact yes; exact .tail _ (.head _); rfl; intro hcond; assumption; intro hcond; assumption; intro hcond; (focus ((try simp only [add_block]); (repeat (first | exact NotOwned.nil | exact hno _ (by omega) | refine NotOwned.blk (by omega) ?_ | refine NotOwned.row (by omega) ?_ | refine NotOwned.rws (by omega) ?_ | refine NotOwned.pile (by omega) ?_)); done))
          apply oas; rfl; rfl
          apply OL.nil
          have hL2 : RwsOf (L.set z ⟨x.O1, some ⟨x.g1, 0, none⟩, (f z).length + 1, x.c1, ints (f z) ++ [.int .i64 (y0 : Int)]⟩) G.length (fun k => if k = z then f z ++ [(y0 : Int)] else f k) := by
            refine hL.set ⟨?_, ?_⟩ (fun k hk => by rw [if_neg hk])
            · simp only [if_true, ints_append]; rfl
            · simp only [if_true, List.length_append, List.length_cons, List.length_nil]
          refine At.again (z', L.set z ⟨x.O1, some ⟨x.g1, 0, none⟩, (f z).length + 1, x.c1, ints (f z) ++ [.int .i64 (y0 : Int)]⟩) ⟨⟨hzi', hpz'⟩, _, hL2, hf.add hmem hstep⟩ (by simp only; omega) (by exact Sub.au) (fun w' hw' => ?_)
          · have h9 := hw'.rws_in (by rw [hL.1]; exact hzl)
            have hx1 := x.hb1
            rw [show (L.map slC).set (0 + (z : Int).toNat * 1) (.slice (some ⟨x.g1, 0, none⟩) ((f z).length + 1) x.c1) = (L.set z ⟨x.O1, some ⟨x.g1, 0, none⟩, (f z).length + 1, x.c1, ints (f z) ++ [.int .i64 (y0 : Int)]⟩).map slC by
              rw [show 0 + (z : Int).toNat * 1 = z by omega]
              exact slC_set L z ⟨x.O1, some ⟨x.g1, 0, none⟩, (f z).length + 1, x.c1, ints (f z) ++ [.int .i64 (y0 : Int)]⟩] at h9
            exact h9.thin (.keep (.keep (.keep (.any (fun k hk => by rw [show k = x.b1 from hk]; exact hx1) Thin.nil))))
      · have hzp : z = p0 := by
          by_cases e : z = p0
          · exact e
          · have e2 : ¬ (z : Int) = p0 := by omega
            simp [e2] at h3
        subst hzp
        refine W.xt ?_
        with_reducible apply At.in_normal
        with_reducible apply At.next
        apply W.reg
        apply obn; rfl; rfl; rfl; apply Bin.add_in; omega
        apply omv; rfl; rfl
        apply OL.nil
        refine At.again (j + 1, L) ⟨by simp only; omega, f, hL, hf.congr fun x y => by rw [htk, PB.snoc hp0, or_assoc]⟩ (by simp only; omega) (by exact Sub.au) (fun w' hw' => hw'.thin (.keep (.any (fun k hk => by rw [show k = b10 from hk]; exact hA b10 hb10) (.keep Thin.nil))))
    · obtain rfl : j = ts.length := by omega
      rw [← hll, List.take_length] at hf
      refine W.xt ?_
      with_reducible apply At.in_normal
      with_reducible apply At.next
      apply W.reg
      apply obn; rfl; rfl; rfl; apply Bin.add_in; omega
      apply omv; rfl; rfl
      apply OL.nil
      exact At.again (i + 1, L) ⟨by simp only; omega, f, hL, hf.congr fun x y => PA.succ hGi hri⟩ (by simp only; omega) (by exact Sub.au) (fun w' hw' => hw')
  · obtain rfl : i = G.length := by omega
    refine W.xt ?_
    with_reducible apply At.next
    apply W.seq
    apply W.sr
    apply omv; rfl; rfl
    apply oop; rfl; apply Pev.len_slice; rfl; exact yes; rfl
    apply omv; rfl; rfl
    apply OL.nx
    apply W.block
    have hlen : ∀ k, (f k).length ≤ G.length := hf.len hedge
    refine W.loop (G := Nat × List Rw) (fun g => g.1 ≤ G.length ∧ RwsOf g.2 G.length (fun k => if k < g.1 then isrt (f k) else f k)) (fun g => G.length - g.1)
      (fun g => [(6, true, .slice (some ⟨bO, 0, none⟩) G.length G.length), (87, true, .slice (some ⟨bO, 0, none⟩) G.length G.length), (88, true, .int .i64 (G.length : Int)), (89, true, .int .i64 (g.1 : Int))])
      (fun g => Cls [rws wC.heap.size 3 1 (fun j => g.2[j]?), blk bO 35 (g.2.map slC)] [wC, wB, w0, w]) (0, L)
      ⟨by simp, hL.congr fun k _ => by simp⟩ (by exact Sub.au) (fun w' hw' => hw') ?_
    rintro ⟨j, M⟩ ⟨hj, hM⟩
    simp only at hj hM ⊢
    have hMl := hM.1
    apply W.sr
    apply obn; rfl; rfl; rfl; apply Bin.lss
    apply OL.nx
    apply W.seq
    (refine W.cnd (fun hlt3 => ?_) (fun hlt3 => ?_)) <;> (try (exfalso; first | omega | exact hlt3 trivial | contradiction))
    · obtain ⟨⟨Or, qr, mr, cr, xr⟩, hr⟩ : ∃ r, M[j]? = some r := ⟨_, List.getElem?_eq_getElem (by omega)⟩
      obtain ⟨hrx, hrm⟩ := hM.2 j _ hr
      simp only [Nat.lt_irrefl, if_false] at hrx hrm
      subst hrx hrm
      have hrv : (M.map slC)[0 + j * 1]? = some (.slice qr (f j).length cr) := by
        rw [show 0 + j * 1 = j by omega, List.getElem?_map, hr]
        rfl
      have hfl := hlen j
      refine W.cls (C' := Cls [row wC.heap.size Or qr (f j).length cr 3 1 (ints (f j)), rws wC.heap.size 3 1 (fout M j), blk bO 35 (M.map slC)] [wC, wB, w0, w]) (fun w' hw' => hw'.rws_out hr) ?_
      apply W.sk
      apply W.sb
      apply W.sr
      apply oop; rfl; apply Pev.idxB; rfl; exact yes; rfl; exact yes; rfl; intro hcond; omega; rfl
      apply oop; rfl; apply Pev.load_blk; rfl; exact yes; exact .tail _ (.tail _ (.head _)); rfl; assumption
      apply oas; rfl; rfl
      apply OL.nx
      apply W.reg
      apply omv; rfl; rfl
      refine OL.callE (α := Unit) (fun _ => .tuple #[]) (fun _ => True) (fun _ => Cls [row wC.heap.size Or qr (f j).length cr 3 1 (ints (isrt (f j))), rws wC.heap.size 3 1 (fout M j), blk bO 35 (M.map slC)] [wC, wB, w0, w]) rfl rfl (by exact Args.au) (fun w2 hw2 => (SortI_calls (xs := f j) .z hw2 (by omega)).mono fun e w3 ⟨h1, h2⟩ => ⟨(), h1, trivial, h2⟩) ?_
      rintro _ _
      apply OL.nil
      with_reducible apply At.in_normal
      with_reducible apply At.next
      apply W.reg
      apply obn; rfl; rfl; rfl; apply Bin.add_in; omega
      apply omv; rfl; rfl
      apply OL.nil
      refine At.again (j + 1, M.set j ⟨Or, qr, (f j).length, cr, ints (isrt (f j))⟩) ⟨by simp only; omega, hM.set (g := fun k => if k < j + 1 then isrt (f k) else f k) ⟨?_, ?_⟩ (fun k hk => ?_)⟩ (by simp only; omega) (by exact Sub.au) (fun w' hw' => ?_)
      · rw [if_pos (by omega)]
      · rw [if_pos (by omega), isrt_len]
      · split <;> split <;> first | rfl | omega
      · have h9 := hw'.rws_in (by rw [hM.1]; omega)
        rw [show M.map slC = (M.set j ⟨Or, qr, (f j).length, cr, ints (isrt (f j))⟩).map slC by
          rw [← slC_set, set_same]
          rw [List.getElem?_map, hr]
          rfl] at h9
        exact h9
    · obtain rfl : j = G.length := by omega
      have hM2 : RwsOf M G.length (frL G) := hM.congr fun k hk => by rw [if_pos hk]; exact (fr_done hord hend hdm hE0 hf k).symm
      refine W.xt ?_
      with_reducible apply At.next
      apply W.sr
      apply omv; rfl; rfl
      apply oas; rfl; rfl
      apply oas; rfl; rfl
      apply OL.nx
      apply W.ret
      ((with_reducible apply At.fin2); rfl; rfl; rfl; intro w' hw')
      refine ⟨hw'.toExt (by exact mau) (fun k hk => NotOwned.rws (by omega) (NotOwned.blk (by omega) NotOwned.nil)), .inr ⟨by trivial, bO, rfl, blk_lt (hw'.item (.tail _ (.head _))), fun k hk => ?_⟩⟩
      obtain ⟨r, hr⟩ : ∃ r, M[k]? = some r := ⟨_, List.getElem?_eq_getElem (by omega)⟩
      obtain ⟨hrx, hrm⟩ := hM2.2 k r hr
      have h9 := hw'.rws_out hr
      rw [hrx] at h9
      refine ⟨r.q, r.cap, ?_, rowIntsL h9 (.head _)⟩
      rw [blk_cell (hw'.item (.tail _ (.head _))), List.getElem?_map, hr, ← hrm]
      rfl
end Go.Proofs.Ytehelljmaiophaa.ss

/- Plain: loops of a graph of blocks. No program in sight. No condition. -/
namespace Go.Ss
set_option linter.unusedVariables false
set_option linter.unusedSimpArgs false
set_option linter.unusedVariables false
set_option linter.unusedSimpArgs false
/-- an edge back to a block that stands over its start -/
def BackE (G : List (List Int)) (b h : Nat) : Prop := Rc G (-1) b ∧ Edge G b h ∧ Dm G h b
/-- a way from x to p that does not come to h -/
inductive Fw (G : List (List Int)) (h : Nat) : Nat → Nat → Prop where
  | refl {x : Nat} (hx : x ≠ h) : Fw G h x x
  | step {x y p : Nat} (hx : x ≠ h) (he : Edge G x y) (r : Fw G h y p) : Fw G h x p
def InL (G : List (List Int)) (h x : Nat) : Prop := x = h ∨ (Rc G (-1) x ∧ ∃ p, BackE G p h ∧ Fw G h x p)
def IsH (G : List (List Int)) (h : Nat) : Prop := ∃ p, BackE G p h
section
variable {G : List (List Int)} {h : Nat}
theorem Fw.ne {x p : Nat} (r : Fw G h x p) : x ≠ h := by cases r <;> assumption
theorem Fw.snoc {x y p : Nat} (r : Fw G h x y) (he : Edge G y p) (hp : p ≠ h) : Fw G h x p := by
  induction r with
  | refl hx => exact .step hx he (.refl hp)
  | step hx he2 _ ih => exact .step hx he2 (ih he)
theorem Fw.rc (hG : ∀ l ∈ G, ∀ e ∈ l, 0 ≤ e ∧ e < (G.length : Int)) {x p : Nat} (r : Fw G h x p) (hx : Rc G (-1) x) : Rc G (-1) p := by
  induction r with
  | refl _ => exact hx
  | step _ he _ ih => exact ih (.step hx he (by omega) (edge_lt hG he))
theorem IsH.rc (hG : ∀ l ∈ G, ∀ e ∈ l, 0 ≤ e ∧ e < (G.length : Int)) (hh : IsH G h) : Rc G (-1) h := by
  obtain ⟨p, h1, h2, _⟩ := hh
  exact .step h1 h2 (by omega) (edge_lt hG h2)
theorem InL.rc (hG : ∀ l ∈ G, ∀ e ∈ l, 0 ≤ e ∧ e < (G.length : Int)) (hh : IsH G h) {x : Nat} (hx : InL G h x) : Rc G (-1) x := by
  rcases hx with rfl | ⟨h1, _⟩
  · exact hh.rc hG
  · exact h1
/-- the search back from the ends of the edges to h -/
structure LS (G : List (List Int)) (h : Nat) (B W : List Int) : Prop where
  nd : B.Nodup
  hd : (h : Int) ∈ B
  bin : ∀ v ∈ B, ∃ x : Nat, v = (x : Int) ∧ x < G.length ∧ InL G h x
  win : ∀ v ∈ W, ∃ x : Nat, v = (x : Int) ∧ x < G.length ∧ (Rc G (-1) x → InL G h x)
  src : ∀ p, BackE G p h → (p : Int) ∈ B ∨ (p : Int) ∈ W
  cl : ∀ x : Nat, (x : Int) ∈ B → x ≠ h → ∀ y, Edge G y x → Rc G (-1) y → (y : Int) ∈ B ∨ (y : Int) ∈ W
theorem LS.start (hG : ∀ l ∈ G, ∀ e ∈ l, 0 ≤ e ∧ e < (G.length : Int)) (hh : IsH G h) {W : List Int} (hW : ∀ v, v ∈ W ↔ ∃ p : Nat, v = (p : Int) ∧ BackE G p h) : LS G h [(h : Int)] W where
  nd := by simp
  hd := by simp
  bin := fun v hv => ⟨h, List.mem_singleton.1 hv, (hh.rc hG).lt, .inl rfl⟩
  win := fun v hv => by
    obtain ⟨p, rfl, hp⟩ := (hW v).1 hv
    refine ⟨p, rfl, hp.1.lt, fun hr => ?_⟩
    by_cases e : p = h
    · exact .inl e
    · exact .inr ⟨hr, p, hp, .refl e⟩
  src := fun p hp => .inr ((hW _).2 ⟨p, rfl, hp⟩)
  cl := fun x hx hne => by
    have := List.mem_singleton.1 hx
    omega
theorem LS.skip {B W : List Int} {x : Nat} (s : LS G h B (W ++ [(x : Int)])) (hx : ¬ (Rc G (-1) x) ∨ (x : Int) ∈ B) : LS G h B W := by
  have key : ∀ y : Nat, (y : Int) ∈ W ++ [(x : Int)] → Rc G (-1) y → (y : Int) ∈ B ∨ (y : Int) ∈ W := fun y hy hr => by
    rcases List.mem_append.1 hy with hy | hy
    · exact .inr hy
    · have := List.mem_singleton.1 hy
      obtain rfl : y = x := by omega
      rcases hx with hx | hx
      · exact absurd hr hx
      · exact .inl hx
  refine ⟨s.nd, s.hd, s.bin, fun v hv => s.win v (by simp [hv]), fun p hp => ?_, fun x' hx' hne y he hr => ?_⟩
  · rcases s.src p hp with h1 | h1
    · exact .inl h1
    · exact key p h1 hp.1
  · rcases s.cl x' hx' hne y he hr with h1 | h1
    · exact .inl h1
    · exact key y h1 hr
theorem LS.take {B W : List Int} {x : Nat} (s : LS G h B (W ++ [(x : Int)])) (hr : Rc G (-1) x) (hx : (x : Int) ∉ B) : LS G h (B ++ [(x : Int)]) (W ++ predsF G 0 (x : Int)) := by
  have hne : x ≠ h := fun e => hx (e ▸ s.hd)
  have hin : InL G h x := by
    obtain ⟨y, h1, _, h2⟩ := s.win (x : Int) (by simp)
    obtain rfl : x = y := by omega
    exact h2 hr
  obtain ⟨_, p, hp, hfw⟩ := hin.resolve_left hne
  have key : ∀ y : Nat, (y : Int) ∈ W ++ [(x : Int)] → (y : Int) ∈ B ++ [(x : Int)] ∨ (y : Int) ∈ W ++ predsF G 0 (x : Int) := fun y hy => by
    rcases List.mem_append.1 hy with hy | hy
    · exact .inr (by simp [hy])
    · exact .inl (by simp [List.mem_singleton.1 hy])
  refine ⟨?_, by simp [s.hd], fun v hv => ?_, fun v hv => ?_, fun p hp => ?_, fun x' hx' hne' y he hy => ?_⟩
  · refine List.nodup_append.2 ⟨s.nd, by simp, fun a ha b hb e => ?_⟩
    obtain rfl := List.mem_singleton.1 hb
    exact hx (e ▸ ha)
  · rcases List.mem_append.1 hv with hv | hv
    · exact s.bin v hv
    · exact ⟨x, List.mem_singleton.1 hv, hr.lt, .inr ⟨hr, p, hp, hfw⟩⟩
  · rcases List.mem_append.1 hv with hv | hv
    · exact s.win v (by simp [hv])
    · obtain ⟨j, l, h1, h2, h3⟩ := predsF_mem.1 hv
      refine ⟨j, by omega, (List.getElem?_eq_some_iff.1 h1).1, fun hj => ?_⟩
      by_cases e : j = h
      · exact .inl e
      · exact .inr ⟨hj, p, hp, .step e ⟨l, h1, h2⟩ hfw⟩
  · rcases s.src p hp with h1 | h1
    · exact .inl (by simp [h1])
    · exact key p h1
  · rcases List.mem_append.1 hx' with h1 | h1
    · rcases s.cl x' h1 hne' y he hy with h2 | h2
      · exact .inl (by simp [h2])
      · exact key y h2
    · have := List.mem_singleton.1 h1
      obtain rfl : x' = x := by omega
      exact .inr (by simp [preds_edge.2 he])
theorem LS.done {B : List Int} (hG : ∀ l ∈ G, ∀ e ∈ l, 0 ≤ e ∧ e < (G.length : Int)) (s : LS G h B []) (v : Int) : v ∈ B ↔ ∃ x : Nat, v = (x : Int) ∧ x < G.length ∧ InL G h x := by
  constructor
  · exact s.bin v
  · rintro ⟨x, rfl, _, hx⟩
    rcases hx with rfl | ⟨hr, p, hp, hfw⟩
    · exact s.hd
    · induction hfw with
      | refl _ => exact (s.src _ hp).resolve_right (by simp)
      | @step x y p hx he r ih =>
        have hy := ih (edge_lt hG he) (.step hr he (by omega) (edge_lt hG he)) hp
        exact (s.cl y hy r.ne x he hr).resolve_right (by simp)
end
open Classical in
noncomputable def memL (G : List (List Int)) (h : Nat) : List Int := ((List.range G.length).filter fun x => decide (InL G h x)).map fun x : Nat => (x : Int)
theorem memL_sorted (G : List (List Int)) (h : Nat) : (memL G h).Pairwise (· < ·) := by
  unfold memL
  rw [List.pairwise_map]
  exact (List.Pairwise.filter _ List.pairwise_lt_range).imp fun h => by omega
theorem memL_mem {G : List (List Int)} {h : Nat} {v : Int} : v ∈ memL G h ↔ ∃ x : Nat, v = (x : Int) ∧ x < G.length ∧ InL G h x := by
  unfold memL
  simp only [List.mem_map, List.mem_filter, List.mem_range, decide_eq_true_eq]
  constructor
  · rintro ⟨x, ⟨h1, h2⟩, h3⟩
    exact ⟨x, h3.symm, h1, h2⟩
  · rintro ⟨x, h1, h2, h3⟩
    exact ⟨x, ⟨h2, h3⟩, h1.symm⟩
theorem memL_len (G : List (List Int)) (h : Nat) : (memL G h).length ≤ G.length := by
  unfold memL
  rw [List.length_map]
  exact Nat.le_trans (List.length_filter_le _ _) (by simp)
theorem LS.sorted {G : List (List Int)} {h : Nat} {B : List Int} (hG : ∀ l ∈ G, ∀ e ∈ l, 0 ≤ e ∧ e < (G.length : Int)) (s : LS G h B []) : isrt B = memL G h :=
  sorted_eq (lt_of_nodup (isrt_sorted _) ((isrt_perm _).symm.nodup s.nd)) (memL_sorted G h) fun v => by rw [isrt_mem, s.done hG, memL_mem]
theorem LS.len {G : List (List Int)} {h : Nat} {B W : List Int} (s : LS G h B W) : B.length ≤ G.length := by
  have := nodup_le (l := B) (m := (List.range G.length).map fun k : Nat => (k : Int)) s.nd fun v hv => by
    obtain ⟨x, rfl, h2, _⟩ := s.bin v hv
    exact List.mem_map.2 ⟨x, List.mem_range.2 h2, rfl⟩
  simpa using this
open Classical in
noncomputable def hdrL (G : List (List Int)) (k : Nat) : List Nat := (List.range k).filter fun h => decide (IsH G h)
theorem hdrL_succ (G : List (List Int)) (k : Nat) : (IsH G k → hdrL G (k + 1) = hdrL G k ++ [k]) ∧ (¬ IsH G k → hdrL G (k + 1) = hdrL G k) := by
  unfold hdrL
  rw [List.range_succ, List.filter_append, List.filter_cons]
  constructor
  · intro h; simp [h]
  · intro h; simp [h]
theorem hdrL_len (G : List (List Int)) (k : Nat) : (hdrL G k).length ≤ k := by
  unfold hdrL
  exact Nat.le_trans (List.length_filter_le _ _) (by simp)
theorem hdrL_mem {G : List (List Int)} {k h : Nat} (hm : h ∈ hdrL G k) : h < k ∧ IsH G h := by
  unfold hdrL at hm
  simpa using hm
/-- the loops: head and members; the parent: the smallest other loop that holds the head -/
noncomputable def lpsL (G : List (List Int)) : List (Nat × List Int) := (hdrL G G.length).map fun h => (h, memL G h)
def better (L : List (Nat × List Int)) (i : Nat) (best : Int) (j : Nat) : Bool :=
  decide (j ≠ i) && decide (((L.getD i (0, [])).1 : Int) ∈ (L.getD j (0, [])).2) && (decide (best < 0) || decide ((L.getD j (0, [])).2.length < (L.getD best.toNat (0, [])).2.length))
def parF (L : List (Nat × List Int)) (i : Nat) : Nat → Int
  | 0 => -1
  | k + 1 => if better L i (parF L i k) k = true then (k : Int) else parF L i k
theorem parF_lt (L : List (Nat × List Int)) (i : Nat) : ∀ k, -1 ≤ parF L i k ∧ parF L i k < (k : Int)
  | 0 => by simp [parF]
  | k + 1 => by
    have := parF_lt L i k
    rw [parF]
    split <;> omega
/-- how many of the first k loops hold a block -/
def cntL (L : List (Nat × List Int)) (x : Nat) : Int := ((L.filter fun p => decide ((x : Int) ∈ p.2)).length : Nat)
end Go.Ss

/- The walk of loops' backs. Conditions: none. -/
namespace Go.Eng
set_option linter.unusedVariables false
set_option linter.unusedSimpArgs false
open Go.RowKit
theorem rowArrL {α μ : Type} {R : Rel α μ} {H : List Item} {S : List World} {w : World} {B m cap : Nat} {O : Nat → Prop} {q : Option Addr} {e : TypeId} {l : List (α × μ)} (h : Cls H S w) (hr : row B O q m cap e R.sz (cat R.c l) ∈ H) (hel : ∀ p ∈ l, R.ok w (low w) p.1 p.2) : Arr R w (low w) l q :=
  ⟨fun hl => by
    obtain ⟨a, h1, h2, h3⟩ := SlAt.of_row (h.item hr) (by rw [cat_length (f := R.c) R.clen]; exact Nat.mul_pos hl R.pos)
    refine ⟨a, h1, ?_, h3⟩
    have h4 := h3 0 _ (List.getElem?_eq_getElem (by rw [cat_length (f := R.c) R.clen]; exact Nat.mul_pos hl R.pos))
    have := cell_lt h4
    rwa [add_block] at this, hel⟩
end Go.Eng
namespace Go.Ss
set_option linter.unusedVariables false
set_option linter.unusedSimpArgs false
open Go.Eng Go.RowKit
set_option linter.unusedVariables false
set_option linter.unusedSimpArgs false
def beR : Rel (Nat × Nat) Unit where
  sz := 2
  pos := by decide
  cells := fun p _ => [.int .i64 (p.1 : Int), .int .i64 (p.2 : Int)]
  ok := fun _ _ _ _ => True
  len := fun _ _ => rfl
  stab := fun _ h => h
  mono := fun _ h => h
def beC (E : List (Nat × Nat)) : List Value := cat beR.c (E.map fun p => (p, ()))
theorem beC_snoc (E : List (Nat × Nat)) (p : Nat × Nat) : beC (E ++ [p]) = beC E ++ [.int .i64 (p.1 : Int), .int .i64 (p.2 : Int)] := by
  unfold beC
  rw [List.map_append, cat_append]
  rfl
/-- the reached blocks in order -/
def rl (G : List (List Int)) : List Int := isrt (visC G 0 (List.replicate G.length false, [])).2.reverse
theorem rl_mem {G : List (List Int)} (hG : ∀ l ∈ G, ∀ e ∈ l, 0 ≤ e ∧ e < (G.length : Int)) (h0 : 0 < G.length) {v : Int} : v ∈ rl G ↔ ∃ k : Nat, v = (k : Int) ∧ Rc G (-1) k := by
  unfold rl
  rw [isrt_mem, List.mem_reverse]
  exact (vis_all hG h0).2 v
theorem rl_sorted {G : List (List Int)} (hG : ∀ l ∈ G, ∀ e ∈ l, 0 ≤ e ∧ e < (G.length : Int)) (h0 : 0 < G.length) : (rl G).Pairwise (· < ·) :=
  lt_of_nodup (isrt_sorted _) ((isrt_perm _).symm.nodup ((List.reverse_perm _).symm.nodup (vis_all hG h0).1))
theorem rl_len {G : List (List Int)} (hG : ∀ l ∈ G, ∀ e ∈ l, 0 ≤ e ∧ e < (G.length : Int)) (h0 : 0 < G.length) : (rl G).length ≤ G.length := by
  unfold rl
  rw [isrt_len]
  exact ordL_len hG h0
end Go.Ss
namespace Go.Proofs.Ytehelljmaiophaa.ss
set_option linter.unusedVariables false
set_option linter.unusedSimpArgs false
set_option maxRecDepth 100000
open Go.Eng Go.RowKit Go.Ss
set_option linter.unusedVariables false
set_option linter.unusedSimpArgs false
theorem backs_calls (fn : Go.Ss.Fn) (y : FnY) (w : World) (hfn : FnOk w (low w) fn y) :
    Calls Try.prog 96 [.agg (fnC fn y).toArray].toArray w fun e w' => Ext w w' ∧ ((funcE fn ≠ 0 ∧ e = .returned (.tuple #[.slice none 0 0, .int .i64 (funcE fn)])) ∨ (funcE fn = 0 ∧ ∃ (E : List (Nat × Nat)) (q : Option Addr) (c : Nat), e = .returned (.tuple #[.slice q E.length c, .int .i64 0]) ∧ Arr beR w' (low w') (E.map fun p => (p, ())) q ∧ E.length ≤ 128 * 257 ∧ ∀ b h, (b, h) ∈ E ↔ BackE (graphB fn.blocks) b h)) := by
  have hfn0 := hfn
  obtain ⟨es, hes, he⟩ := hfn.b
  obtain ⟨nm, bs⟩ := fn
  obtain ⟨q, cap⟩ := y
  have hbl := hfn.bl
  simp only at hes he hbl
  have hbl2 : bs.length = es.length := by rw [← hes, List.length_map]
  have hF : ∀ (H : List Eng.Item) (S : List World) (w2 : World), Cls H S w2 → w ∈ S → (∀ k, k < w.heap.size → NotOwned H k) → FnOk w2 (low w2) ⟨nm, bs⟩ ⟨q, cap⟩ := fun H S w2 hw2 hs hno => fnR.mono (hw2.up hs) (fnR.stab (hw2.same hs hno) hfn0)
  obtain ⟨er, her⟩ : ∃ er, funcE ⟨nm, bs⟩ = er := ⟨_, rfl⟩
  obtain ⟨G, hG⟩ : ∃ G, graphB bs = G := ⟨_, rfl⟩
  have hGl : G.length = es.length := by rw [← hG]; simp [graphB, hbl2]
  have hRa := fun w2 (H : List Eng.Item) (S : List World) hw2 hs hno => Reachable_ext ⟨nm, bs⟩ ⟨q, cap⟩ w2 (hF H S w2 hw2 hs hno)
  have hTr := fun w2 (H : List Eng.Item) (S : List World) hw2 hs hno => DTree_calls ⟨nm, bs⟩ ⟨q, cap⟩ w2 (hF H S w2 hw2 hs hno)
  simp only [fnC, her, hG, hbl2, ← hGl, ← rl.eq_1] at hRa hTr ⊢
  refine enter Try.func96 rfl Try.ntmps96 rfl (Cls.start w) ?_
  (simp only [argEnv, Nat.zero_add, Nat.reduceAdd])
  apply W.sr
  apply OL.box; rfl; rfl; exact CellsL.agg; (intro bk hbk; simp only [AllLe, and_true] at hbk)
  apply oas; rfl; rfl
  apply oas; rfl; rfl
  apply OL.nsr
  apply oop; rfl; apply Pev.load_blkA; rfl; exact yes; exact .head _; rfl; exact Take.au
  revert bk
  intro b1 hb1x
  have hb1 : w.heap.size ≤ b1 := by first | exact hb1x | exact hb1x.1
  refine OL.frzD (C' := fun w0 => Cls [] [w0, w]) (fun w0 hc0 => (hc0.thin (.any (fun k hk => by rw [show k = b1 from hk]; exact ⟨hb1, trivial⟩) Thin.nil)).note) (fun w0 hc0 => ?_)
  have hb10 : b1 < w0.heap.size := blk_lt (hc0.item (.head _))
  have hw0 : w.heap.size ≤ w0.heap.size := (hc0.kp w (.head _)).size
  have hcF : CellsAt w0 ⟨b1, 0, none⟩ [.int .i64 nm, .slice q G.length cap] := fun j v hj => by
    rw [add_mid, blk_cell (hc0.item (.head _)), Nat.zero_add]
    exact hj
  have hcF1 : w0.cell? ⟨b1, 0 + 1, none⟩ = some (.slice q G.length cap) := hcF 1 _ rfl
  by_cases hne : er ≠ 0
  · (((first | (with_reducible apply OL.op) | (with_reducible apply QL.op)); (exact Guard.au); rfl; rfl); (exact Pev.call (v := .tuple #[.slice none 0 0, .int .i64 er]) rfl (by exact Args.au) (fun _ w2 hw2 => (hRa w2 _ _ hw2 (by exact mau) (fun k hk => NotOwned.nil)).mono (fun e w3 h => ⟨by rcases h.2 with h2 | h2; exact h2.2; exact absurd h2.1 hne, hw2.ext h.1⟩))))
    apply omv; rfl; rfl
    apply oex; rfl; rfl; rfl
    apply oex; rfl; rfl; rfl
    apply oas; rfl; rfl
    apply oas; rfl; rfl
    apply OL.nx
    apply W.seq
    apply W.sr
    apply omv; rfl; rfl
    apply obn; rfl; rfl; rfl; apply Bin.neq
    apply OL.nx
    refine W.cond rfl (fun _ => ?_) (fun h => by simp at h; exact absurd h hne)
    apply W.sr
    apply omv; rfl; rfl
    apply oas; rfl; rfl
    apply oas; rfl; rfl
    apply OL.nx
    refine W.rt ?_
    ((with_reducible apply At.fin2); rfl; rfl; rfl; intro w' hw')
    exact ⟨hw'.fr (by exact mau) (fun k hk => NotOwned.nil), .inl ⟨hne, rfl⟩⟩
  obtain rfl : er = 0 := Classical.not_not.1 hne
  obtain ⟨h0, h128, hs0⟩ := func_zero her
  simp only at h0 h128 hs0
  have hGE : ∀ l ∈ G, ∀ x ∈ l, 0 ≤ x ∧ x < (G.length : Int) := fun l hl x hx => by
    rw [← hG] at hl
    obtain ⟨b, hb, rfl⟩ := List.mem_map.1 hl
    obtain ⟨e, he, rfl⟩ := List.mem_map.1 hx
    have := shape_edges hs0 b hb e he
    omega
  have hG0 : 0 < G.length := by omega
  have hGn : G.length ≤ 128 := by omega
  have hord := ordOk hGE hG0
  have hrl := rl_len hGE hG0
  refine OL.callE (α := (Option Addr × Nat) × World) (fun z => .tuple #[.slice z.1.1 (rl G).length z.1.2, .int .i64 0]) (fun z => w0.heap.size ≤ z.2.heap.size ∧ IntsO z.2 (low z.2) (rl G) z.1.1) (fun z => Cls [] [z.2, w0, w]) rfl rfl (by exact Args.au) (fun w2 hw2 => (hRa w2 _ _ hw2 (by exact mau) (fun k hk => NotOwned.nil)).mono fun e w3 ⟨h2, h3⟩ => ?_) ?_
  · rcases h3 with ⟨h3, _⟩ | ⟨_, q', c', h4, h5⟩
    · exact absurd rfl h3
    · exact ⟨((q', c'), w3), h4, ⟨((hw2.ext h2).kp w0 (by exact mau)).size, h5⟩, (hw2.ext h2).note⟩
  rintro ⟨⟨qr, cr⟩, wR⟩ ⟨hw0R, hIR⟩
  simp only at hw0R hIR ⊢
  apply omv; rfl; rfl
  apply oex; rfl; rfl; rfl
  apply oex; rfl; rfl; rfl
  apply oas; rfl; rfl
  apply oas; rfl; rfl
  apply OL.nx
  apply W.seq
  apply W.sr
  apply omv; rfl; rfl
  apply obn; rfl; rfl; rfl; apply Bin.neq
  apply OL.nx
  refine W.cond rfl (fun h => by simp at h) (fun _ => ?_)
  apply W.sk
  apply W.sr
  apply oop; rfl; apply Pev.load_keptA; rfl; exact yes; exact .tail _ (.head _); rfl; intro hcond; assumption; rfl; intro hcond; assumption; intro hcond; exact NotOwned.au
  refine OL.callE (α := (Nat × (Nat → Option Nat)) × World) (fun z => .tuple #[.slice (some ⟨z.1.1, 0, none⟩) G.length G.length, .int .i64 0]) (fun z => wR.heap.size ≤ z.2.heap.size ∧ IntsO z.2 (low z.2) (tabI G.length fun k => ovI (z.1.2 k)) (some ⟨z.1.1, 0, none⟩) ∧ EndR G (plN G) z.1.2 ∧ ∀ a k, Rc G (-1) k → (An z.1.2 a k ↔ Dm G a k)) (fun z => Cls [] [z.2, wR, w0, w]) rfl rfl (by exact Args.au) (fun w2 hw2 => (hTr w2 _ _ hw2 (by exact mau) (fun k hk => NotOwned.nil)).mono fun e w3 ⟨h2, h3⟩ => ?_) ?_
  · rcases h3 with ⟨h3, _⟩ | ⟨_, bI, o, h4, h5, h6⟩
    · exact absurd rfl h3
    · exact ⟨((bI, o), w3), h4, ⟨((hw2.ext h2).kp wR (by exact mau)).size, h5, h6⟩, (hw2.ext h2).note⟩
  rintro ⟨⟨bI, o⟩, wT⟩ ⟨hwRT, hII, hend, hdm⟩
  simp only at hwRT hII hend hdm ⊢
  have hA : ∀ b, wT.heap.size ≤ b → AllLe [wT, wR, w0, w] b := fun b hb => ⟨hb, Nat.le_trans hwRT hb, Nat.le_trans (Nat.le_trans hw0R hwRT) hb, Nat.le_trans (Nat.le_trans (Nat.le_trans hw0 hw0R) hwRT) hb, trivial⟩
  apply omv; rfl; rfl
  apply oex; rfl; rfl; rfl
  apply oex; rfl; rfl; rfl
  apply oas; rfl; rfl
  apply oas; rfl; rfl
  apply OL.nsr
  apply oas; rfl; rfl
  apply OL.nx
  apply W.seq
  apply W.sr
  apply omv; rfl; rfl
  apply oop; rfl; apply Pev.len_slice; rfl; exact yes; rfl
  apply omv; rfl; rfl
  apply OL.nx
  apply W.block
  refine W.loop (G := Nat × GR × List (Nat × Nat)) (fun z => (z.1 ≤ (rl G).length ∧ z.2.2.length ≤ z.1 * 257) ∧ ∀ b h, (b, h) ∈ z.2.2 ↔ (b : Int) ∈ (rl G).take z.1 ∧ BackE G b h) (fun z => (rl G).length - z.1)
    (fun z => [(1, true, .pointer (some ⟨b1, 0, none⟩)), (6, true, .slice (some ⟨bI, 0, none⟩) G.length G.length), (8, true, .slice z.2.1.q z.2.2.length z.2.1.c), (26, true, .slice qr (rl G).length cr), (27, true, .int .i64 ((rl G).length : Int)), (28, true, .int .i64 (z.1 : Int))])
    (fun z => Cls [row wT.heap.size z.2.1.O z.2.1.q z.2.2.length z.2.1.c 146 2 (beC z.2.2)] [wT, wR, w0, w]) (0, ⟨fun _ => False, none, 0⟩, []) ⟨⟨by simp, by simp⟩, fun b h => by simp⟩ (by exact Sub.au) (fun w' hw' => hw'.row_nil wT.heap.size 146 2) ?_
  rintro ⟨i, ⟨O0, q0, c0⟩, E⟩ ⟨⟨hi, hEl⟩, hE⟩
  simp only at hi hEl hE ⊢
  apply W.sr
  apply obn; rfl; rfl; rfl; apply Bin.lss
  apply OL.nx
  apply W.seq
  (refine W.cnd (fun hlt => ?_) (fun hlt => ?_)) <;> (try (exfalso; first | omega | exact hlt trivial | contradiction))
  · have hil : i < (rl G).length := by omega
    obtain ⟨ar, v, hqr, habr, hv, hcv⟩ := hIR.get hil
    have habr : ar.block < wR.heap.size := habr
    obtain ⟨k, rfl, hkr⟩ := (rl_mem hGE hG0).1 (List.mem_of_getElem? hv)
    have hkl := hkr.lt
    have hkl2 : k < es.length := by omega
    obtain ⟨a, p, hqa, hab, hp, hcell, hok⟩ := he.get hkl2
    have hab : a.block < w.heap.size := hab
    have hcell : CellsAt w (a.add (k * 7)) [.slice p.2.p.1 p.1.params.length p.2.p.2, .slice p.2.i.1 p.1.ins.length p.2.i.2, .int .i64 p.1.term.kind, .int .i64 p.1.term.arg, .int .i64 p.1.term.n, .slice p.2.t.c.1 p.1.term.cases.length p.2.t.c.2, .slice p.2.t.t.1 p.1.term.to_.length p.2.t.t.2] := hcell
    obtain ⟨ts, hts, harr⟩ := hok.t.t
    have htl2 : p.1.term.to_.length = ts.length := by rw [← hts, List.length_map]
    have hbm : bs[k]? = some p.1 := by rw [← hes]; simp [hp]
    have htl3 := to_len hs0 (List.mem_of_getElem? hbm)
    obtain ⟨l, hl⟩ : ∃ l, p.1.term.to_.map Ed.block = l := ⟨_, rfl⟩
    have hGk : G[k]? = some l := by rw [← hG, ← hl]; simp [graphB, hbm]
    have hll : l.length = ts.length := by rw [← hl, List.length_map, htl2]
    rw [hqa] at hcF1
    have hcell6 : w.cell? ⟨(a.add (k * 7)).block, (a.add (k * 7)).off + 2 + 4, none⟩ = some (.slice p.2.t.t.1 p.1.term.to_.length p.2.t.t.2) := hcell 6 _ rfl
    have habk : (a.add (k * 7)).block < w.heap.size := by rw [add_block]; exact hab
    rw [hqr]
    apply W.sk
    apply W.sb
    apply W.sr
    apply oop; rfl; apply Pev.idx; rfl; exact yes; rfl; exact yes; rfl; rfl; intro hcond; omega
    apply oop; rfl; apply Pev.load_kept; rfl; exact yes; exact .tail _ (.head _); rfl; intro hcond; assumption; intro hcond; (rw [add_block]; assumption); intro hcond; exact NotOwned.au
    apply oas; rfl; rfl
    apply OL.nsr
    apply ofa; rfl; rfl; rfl
    apply oop; rfl; apply Pev.load_kept; rfl; exact yes; exact .tail _ (.tail _ (.head _)); rfl; intro hcond; assumption; intro hcond; assumption; intro hcond; exact NotOwned.au
    apply omv; rfl; rfl
    apply oop; rfl; apply Pev.idx; rfl; exact yes; rfl; exact yes; rfl; rfl; intro hcond; omega
    apply oop; rfl; apply Pev.fldA; rfl; exact yes; rfl
    apply ofa; rfl; rfl; rfl
    apply oop; rfl; apply Pev.load_kept; rfl; exact yes; exact .tail _ (.tail _ (.tail _ (.head _))); rfl; intro hcond; assumption; intro hcond; assumption; intro hcond; exact NotOwned.au
    apply oop; rfl; apply Pev.len_slice; rfl; exact yes; rfl
    apply omv; rfl; rfl
    apply OL.nx
    apply W.block
    rw [htl2]
    refine W.loop (G := Nat × GR × List (Nat × Nat)) (fun z => (z.1 ≤ ts.length ∧ z.2.2.length ≤ i * 257 + z.1) ∧ ∀ b h, (b, h) ∈ z.2.2 ↔ ((b : Int) ∈ (rl G).take i ∧ BackE G b h) ∨ (b = k ∧ (h : Int) ∈ l.take z.1 ∧ Dm G h k)) (fun z => ts.length - z.1)
      (fun z => [(1, true, .pointer (some ⟨b1, 0, none⟩)), (6, true, .slice (some ⟨bI, 0, none⟩) G.length G.length), (8, true, .slice z.2.1.q z.2.2.length z.2.1.c), (10, true, .int .i64 (k : Int)), (26, true, .slice (some ar) (rl G).length cr), (27, true, .int .i64 ((rl G).length : Int)), (28, true, .int .i64 (i : Int)), (38, true, .slice p.2.t.t.1 ts.length p.2.t.t.2), (39, true, .int .i64 (ts.length : Int)), (40, true, .int .i64 (z.1 : Int))])
      (fun z => Cls [row wT.heap.size z.2.1.O z.2.1.q z.2.2.length z.2.1.c 146 2 (beC z.2.2)] [wT, wR, w0, w]) (0, ⟨O0, q0, c0⟩, E) ⟨⟨by simp, by simp only; omega⟩, fun b h => by simp [hE]⟩ (by exact Sub.au) (fun w' hw' => hw') ?_
    rintro ⟨j, ⟨O2, q2, c2⟩, E2⟩ ⟨⟨hj, hEl2⟩, hE2⟩
    simp only at hj hEl2 hE2 ⊢
    apply W.sr
    apply obn; rfl; rfl; rfl; apply Bin.lss
    apply OL.nx
    apply W.seq
    (refine W.cnd (fun hlt2 => ?_) (fun hlt2 => ?_)) <;> (try (exfalso; first | omega | exact hlt2 trivial | contradiction))
    · have hjl : j < ts.length := by omega
      obtain ⟨ae, u, hqt, hatb, hu, hcu, hoku⟩ := harr.get hjl
      have hatb : ae.block < w.heap.size := hatb
      have hcu : CellsAt w (ae.add (j * 2)) [.int .i64 u.1.block, .slice u.2.1 u.1.args.length u.2.2] := hcu
      have hlj : l[j]? = some u.1.block := by rw [← hl, ← hts]; simp [hu]
      obtain ⟨h1, hh1⟩ : ∃ h1 : Nat, u.1.block = (h1 : Int) := ⟨u.1.block.toNat, by have := hGE l (List.mem_of_getElem? hGk) u.1.block (List.mem_of_getElem? hlj); omega⟩
      rw [hh1] at hcu hlj
      have htk : l.take (j + 1) = l.take j ++ [(h1 : Int)] := by rw [List.take_add_one, hlj]; rfl
      rw [hqt]
      apply W.sk
      apply W.sb
      apply W.sr
      apply oop; rfl; apply Pev.idx; rfl; exact yes; rfl; exact yes; rfl; rfl; intro hcond; omega
      apply oop; rfl; apply Pev.load_keptA; rfl; exact yes; exact .tail _ (.tail _ (.tail _ (.head _))); rfl; intro hcond; assumption; rfl; intro hcond; (rw [add_block]; assumption); intro hcond; exact NotOwned.au
      apply OL.alloc; rfl; rfl; exact CellsL.agg; (intro bk hbk; simp only [AllLe, and_true] at hbk)
      apply OL.storeB; rfl; rfl; exact CellsL.agg; rfl; rfl; rfl; exact Swap.au; exact Put.au
      apply OL.nsr
      apply omv; rfl; rfl
      apply ofa; rfl; rfl; rfl
      apply old; rfl; rfl; exact .head _; rfl; rfl
      apply omv; rfl; rfl
      revert bk
      intro b12 hb12x
      have hb12 : wT.heap.size ≤ b12 := by first | exact hb12x | exact hb12x.1
      skip
      refine OL.callE (α := Bool) (fun r => .bool r) (fun r => r = true ↔ Dm G h1 k) (fun _ => Cls [blk b12 105 [.int .i64 (h1 : Int), .slice u.2.1 u.1.args.length u.2.2], row wT.heap.size O2 q2 E2.length c2 146 2 (beC E2)] [wT, wR, w0, w]) rfl rfl (by exact Args.au) (fun w2 hw2 => (lover_calls G o hend (some ⟨bI, 0, none⟩) G.length h1 k w2 (hII.at hw2 (by exact mau) (fun k hk => NotOwned.blk (by omega) (NotOwned.row (by omega) NotOwned.nil))) (by omega) hkr).mono fun e w3 ⟨r, h5, h6, h8⟩ => ⟨r, h5, by rw [h6, hdm h1 k hkr], hw2.ext h8⟩) ?_
      intro r hr
      apply OL.nx
      cases r with
      | true =>
        refine W.cond rfl (fun _ => ?_) (fun h => by cases h)
        apply W.reg
        apply omv; rfl; rfl
        apply omv; rfl; rfl
        apply ofa; rfl; rfl; rfl
        apply old; rfl; rfl; exact .head _; rfl; rfl
        apply oop; rfl; apply Pev.build; rfl; exact CellsL.agg; rfl; exact Fill.au; rfl
        apply OL.buildSlice; rfl; rfl; rfl; exact Elems.au; rfl; rfl; (intro bk hbk; simp only [AllLe, and_true] at hbk)
        apply OL.append; rfl; rfl; rfl; rfl; exact Hole.au; exact .head _; exact Take.au; rfl; rfl; exact ⟨_, .head _, Nat.le_refl _⟩; omega; intro O1 g1 cap1
        apply oas; rfl; rfl
        apply OL.nil
        with_reducible apply At.in_normal
        with_reducible apply At.next
        apply W.reg
        apply obn; rfl; rfl; rfl; apply Bin.add_in; omega
        apply omv; rfl; rfl
        apply OL.nil
        refine At.again (j + 1, ⟨O1, some ⟨g1, 0, none⟩, cap1⟩, E2 ++ [(k, h1)]) ⟨⟨by simp only; omega, by simp only [List.length_append, List.length_cons, List.length_nil]; omega⟩, fun b h => ?_⟩ (by simp only; omega) (by simp only [List.length_append, List.length_cons, List.length_nil]; exact Sub.au) (fun w' hw' => ?_)
        · simp only
          rw [List.mem_append, List.mem_singleton, Prod.mk.injEq, hE2, htk]
          constructor
          · rintro ((h3 | ⟨h3, h4, h5⟩) | ⟨rfl, rfl⟩)
            · exact .inl h3
            · exact .inr ⟨h3, by simp [h4], h5⟩
            · exact .inr ⟨rfl, by simp, hr.1 rfl⟩
          · rintro (h3 | ⟨h3, h4, h5⟩)
            · exact .inl (.inl h3)
            · rcases List.mem_append.1 h4 with h4 | h4
              · exact .inl (.inr ⟨h3, h4, h5⟩)
              · have := List.mem_singleton.1 h4
                exact .inr ⟨h3, by omega⟩
        · simp only [beC_snoc, List.length_append, List.length_cons, List.length_nil]
          exact hw'.thin (.any (fun k hk => by rw [show k = bk from hk]; exact hA bk hbk.1) (.any (fun k hk => by rw [show k = b12 from hk]; exact hA b12 hb12) (.keep Thin.nil)))
      | false =>
        refine W.cond rfl (fun h => by cases h) (fun _ => ?_)
        apply W.skip
        with_reducible apply At.in_normal
        with_reducible apply At.next
        apply W.reg
        apply obn; rfl; rfl; rfl; apply Bin.add_in; omega
        apply omv; rfl; rfl
        apply OL.nil
        refine At.again (j + 1, ⟨O2, q2, c2⟩, E2) ⟨⟨by simp only; omega, by simp only; omega⟩, fun b h => ?_⟩ (by simp only; omega) (by exact Sub.au) (fun w' hw' => hw'.thin (.any (fun k hk => by rw [show k = b12 from hk]; exact hA b12 hb12) (.keep Thin.nil)))
        simp only
        rw [hE2, htk]
        constructor
        · rintro (h3 | ⟨h3, h4, h5⟩)
          · exact .inl h3
          · exact .inr ⟨h3, by simp [h4], h5⟩
        · rintro (h3 | ⟨h3, h4, h5⟩)
          · exact .inl h3
          · rcases List.mem_append.1 h4 with h4 | h4
            · exact .inr ⟨h3, h4, h5⟩
            · have := List.mem_singleton.1 h4
              obtain rfl : h = h1 := by omega
              have := hr.2 h5
              cases this
    · obtain rfl : j = ts.length := by omega
      refine W.xt ?_
      with_reducible apply At.in_normal
      with_reducible apply At.next
      apply W.reg
      apply obn; rfl; rfl; rfl; apply Bin.add_in; omega
      apply omv; rfl; rfl
      apply OL.nil
      refine At.again (i + 1, ⟨O2, q2, c2⟩, E2) ⟨⟨by simp only; omega, by simp only; omega⟩, fun b h => ?_⟩ (by simp only; omega) (by exact Sub.au) (fun w' hw' => hw')
      simp only
      rw [hE2, ← hll, List.take_length, List.take_add_one, hv, Option.toList_some, List.mem_append, List.mem_singleton]
      constructor
      · rintro (⟨h3, h4⟩ | ⟨rfl, h4, h5⟩)
        · exact ⟨.inl h3, h4⟩
        · exact ⟨.inr rfl, hkr, ⟨l, hGk, h4⟩, h5⟩
      · rintro ⟨h3 | h3, h4⟩
        · exact .inl ⟨h3, h4⟩
        · obtain rfl : b = k := by omega
          obtain ⟨l', h6, h7⟩ := h4.2.1
          rw [hGk] at h6
          obtain rfl := Option.some.inj h6
          exact .inr ⟨rfl, h7, h4.2.2⟩
  · obtain rfl : i = (rl G).length := by omega
    rw [List.take_length] at hE
    refine W.xt ?_
    with_reducible apply At.next
    apply W.sr
    apply omv; rfl; rfl
    apply oas; rfl; rfl
    apply oas; rfl; rfl
    apply OL.nx
    apply W.ret
    ((with_reducible apply At.fin2); rfl; rfl; rfl; intro w' hw')
    refine ⟨hw'.toExt (by exact mau) (fun k hk => NotOwned.row (by omega) NotOwned.nil), .inr ⟨by trivial, E, q0, c0, rfl, ?_, by omega, fun b h => ?_⟩⟩
    · exact rowArrL (R := beR) (l := E.map fun p => (p, ())) (show Cls [row wT.heap.size O0 q0 E.length c0 146 beR.sz (cat beR.c (E.map fun p => (p, ())))] [wT, wR, w0, w] w' from hw') (.head _) (fun p hp => trivial)
    · rw [hE]
      exact ⟨fun h3 => h3.2, fun h3 => ⟨(rl_mem hGE hG0).2 ⟨b, rfl, h3.1⟩, h3⟩⟩
end Go.Proofs.Ytehelljmaiophaa.ss

/- The walk of loops' nest. Conditions: none. -/
namespace Go.Ss
set_option linter.unusedVariables false
set_option linter.unusedSimpArgs false
open Go.Eng Go.RowKit
set_option linter.unusedVariables false
set_option linter.unusedSimpArgs false
def intsP : Rel (List Int) Sc where
  sz := 1
  pos := by decide
  cells := fun l y => [.slice y.1 l.length y.2]
  ok := fun w O l y => IntsO w O l y.1
  len := fun _ _ => rfl
  stab := fun hk h => h.stab hk
  mono := fun hk h => h.mono hk
abbrev Lp := Nat × List Int × Sc
def Lp0 : Lp := (0, [], (none, 0))
def lpE (par : Nat → Int) (P : List Lp) (i : Nat) : List Value := [.int .i64 ((P.getD i Lp0).1 : Int), .slice (P.getD i Lp0).2.2.1 (P.getD i Lp0).2.1.length (P.getD i Lp0).2.2.2, .int .i64 (par i)]
theorem lpE_len (par : Nat → Int) (P : List Lp) (i : Nat) : (lpE par P i).length = 3 := rfl
abbrev lpC (par : Nat → Int) (P : List Lp) : List Value := cat (lpE par P) (List.range P.length)
theorem lpC_len (par : Nat → Int) (P : List Lp) : (lpC par P).length = P.length * 3 := by
  unfold lpC
  rw [cat_length (lpE_len par P), List.length_range]
theorem lpC_get (par : Nat → Int) (P : List Lp) {i j : Nat} {v : Value} (hi : i < P.length) (h : (lpE par P i)[j]? = some v) : (lpC par P)[i * 3 + j]? = some v :=
  cat_get (lpE_len par P) (show (List.range P.length)[i]? = some i by simp [hi]) j v h
theorem lpC_at (par : Nat → Int) (P : List Lp) (k : Nat) (hk : k < P.length * 3) : (lpC par P)[k]? = (lpE par P (k / 3))[k % 3]? := by
  have h1 : k % 3 < (lpE par P (k / 3)).length := by rw [lpE_len]; omega
  have h2 := lpC_get par P (i := k / 3) (j := k % 3) (v := (lpE par P (k / 3))[k % 3]) (by omega) (List.getElem?_eq_getElem h1)
  rw [show k / 3 * 3 + k % 3 = k by omega] at h2
  rw [h2, List.getElem?_eq_getElem h1]
theorem lpC_set (par : Nat → Int) (P : List Lp) {i : Nat} (hi : i < P.length) (v : Int) : (lpC par P).set (i * 3 + 2) (.int .i64 v) = lpC (fun k => if k = i then v else par k) P := by
  apply List.ext_getElem?
  intro k
  by_cases hk : k < P.length * 3
  · rw [List.getElem?_set, lpC_at (fun k => if k = i then v else par k) P k hk]
    by_cases e : i * 3 + 2 = k
    · rw [if_pos e, if_pos (by rw [lpC_len]; omega), show k / 3 = i by omega, show k % 3 = 2 by omega]
      simp [lpE]
    · rw [if_neg e, lpC_at _ _ _ hk]
      by_cases e2 : k / 3 = i
      · have h3 : k % 3 = 0 ∨ k % 3 = 1 := by omega
        rcases h3 with h3 | h3 <;> rw [h3] <;> rfl
      · simp only [lpE, if_neg e2]
  · rw [List.getElem?_eq_none (by rw [List.length_set, lpC_len]; omega), List.getElem?_eq_none (by rw [lpC_len]; omega)]
theorem lpC_congr {par par' : Nat → Int} {P : List Lp} (h : ∀ i, i < P.length → par i = par' i) : lpC par P = lpC par' P := by
  apply List.ext_getElem?
  intro k
  by_cases hk : k < P.length * 3
  · rw [lpC_at _ _ _ hk, lpC_at _ _ _ hk]
    unfold lpE
    rw [h _ (by omega)]
  · rw [List.getElem?_eq_none (by rw [lpC_len]; omega), List.getElem?_eq_none (by rw [lpC_len]; omega)]
def lpL (P : List Lp) : List (Nat × List Int) := P.map fun p => (p.1, p.2.1)
theorem lpL_get (P : List Lp) {i : Nat} (hi : i < P.length) : (lpL P).getD i (0, []) = ((P.getD i Lp0).1, (P.getD i Lp0).2.1) := by
  unfold lpL
  rw [List.getD_eq_getElem?_getD, List.getD_eq_getElem?_getD, List.getElem?_map, List.getElem?_eq_getElem hi]
  rfl
end Go.Ss
namespace Go.Proofs.Ytehelljmaiophaa.ss
set_option linter.unusedVariables false
set_option linter.unusedSimpArgs false
set_option maxRecDepth 100000
open Go.Eng Go.RowKit Go.Ss
set_option linter.unusedVariables false
set_option linter.unusedSimpArgs false
theorem nest_calls {S : List World} {w : World} {B B2 cap : Nat} {O Op : Nat → Prop} {q : Option Addr} (P : List Lp) (L : List (List Int × Sc)) (hP : ∀ p ∈ P, p.2 ∈ L) (hl : P.length ≤ 1000000) (hm : ∀ p ∈ P, p.2.1.length ≤ 1000000)
    (h : Cls [row B O q P.length cap 83 3 (lpC (fun _ => -1) P), pool intsP B2 Op L] S w) :
    Calls Try.prog 98 [.slice q P.length cap].toArray w fun e w' => e = .returned (.tuple #[]) ∧ Cls [row B O q P.length cap 83 3 (lpC (fun i => parF (lpL P) i P.length) P), pool intsP B2 Op L] S w' := by
  refine enter Try.func98 rfl Try.ntmps98 rfl h ?_
  (simp only [argEnv, Nat.zero_add, Nat.reduceAdd])
  apply W.sr
  apply omv; rfl; rfl
  apply oop; rfl; apply Pev.len_slice; rfl; exact yes; rfl
  apply omv; rfl; rfl
  apply OL.nx
  apply W.block
  refine W.loop (G := Nat) (fun i => i ≤ P.length) (fun i => P.length - i)
    (fun i => [(0, true, .slice q P.length cap), (7, true, .int .i64 (P.length : Int)), (8, true, .int .i64 (i : Int))])
    (fun i => Cls [row B O q P.length cap 83 3 (lpC (fun k => if k < i then parF (lpL P) k P.length else -1) P), pool intsP B2 Op L] S) 0 (by omega) (by exact Sub.au) (fun w' hw' => by simp only [Nat.not_lt_zero, if_false]; exact hw') ?_
  intro i hi
  apply W.sr
  apply obn; rfl; rfl; rfl; apply Bin.lss
  apply OL.nx
  apply W.seq
  (refine W.cnd (fun hlt => ?_) (fun hlt => ?_)) <;> (try (exfalso; first | omega | exact hlt trivial | contradiction))
  · have hil : i < P.length := by omega
    apply W.sk
    apply W.sb
    apply W.sr
    apply omv; rfl; rfl
    apply oas; rfl; rfl
    apply OL.nsr
    apply omv; rfl; rfl
    apply oop; rfl; apply Pev.len_slice; rfl; exact yes; rfl
    apply omv; rfl; rfl
    apply OL.nx
    apply W.block
    refine W.loop (G := Nat) (fun j => j ≤ P.length) (fun j => P.length - j)
      (fun j => [(0, true, .slice q P.length cap), (2, true, .int .i64 (i : Int)), (7, true, .int .i64 (P.length : Int)), (8, true, .int .i64 (i : Int)), (11, true, .slice q P.length cap), (12, true, .int .i64 (P.length : Int)), (13, true, .int .i64 (j : Int))])
      (fun j => Cls [row B O q P.length cap 83 3 (lpC (fun k => if k < i then parF (lpL P) k P.length else if k = i then parF (lpL P) i j else -1) P), pool intsP B2 Op L] S) 0 (by omega) (by exact Sub.au) (fun w' hw' => by rw [lpC_congr (par' := fun k => if k < i then parF (lpL P) k P.length else -1) (fun k _ => by by_cases e1 : k < i <;> by_cases e2 : k = i <;> simp [e1, e2, parF])]; exact hw') ?_
    intro j hj
    apply W.sr
    apply obn; rfl; rfl; rfl; apply Bin.lss
    apply OL.nx
    apply W.seq
    (refine W.cnd (fun hlt2 => ?_) (fun hlt2 => ?_)) <;> (try (exfalso; first | omega | exact hlt2 trivial | contradiction))
    · have hjl : j < P.length := by omega
      refine W.fact (fun w2 hw2 => row_some (hw2.item (.head _)) (by omega)) ?_
      rintro ⟨g, hg⟩
      subst hg
      have hrj : (List.range P.length)[j]? = some j := by simp [hjl]
      have hri : (List.range P.length)[i]? = some i := by simp [hil]
      obtain ⟨par, hpar⟩ : ∃ par, (fun k => if k < i then parF (lpL P) k P.length else if k = i then parF (lpL P) i j else -1) = par := ⟨_, rfl⟩
      have hpi : par i = parF (lpL P) i j := by rw [← hpar]; simp
      have hpj : P.getD j Lp0 ∈ P := by rw [List.getD_eq_getElem?_getD, List.getElem?_eq_getElem hjl]; exact List.getElem_mem hjl
      have hmj := hm _ hpj
      have hdi := lpL_get P hil
      have hdj := lpL_get P hjl
      have hb := parF_lt (lpL P) i j
      rw [hpar]
      apply W.sk
      apply W.sb
      apply W.sr
      apply omv; rfl; rfl
      apply oop; rfl; apply Pev.idxB; rfl; exact yes; rfl; exact yes; rfl; intro hcond; omega; rfl
      (((first | (with_reducible apply OL.op) | (with_reducible apply QL.op)); (exact Guard.au); rfl; rfl); (refine Pev.load_rowE (sz := 3) (L := List.range P.length) (i := j) rfl (by (first | exact fun _ => rfl | exact fun h => h | (intro h; simp_all; done))) (.head _) rfl (fun _ => rfl) (fun _ => hrj) (fun _ => by omega)))
      apply OL.alloc; rfl; rfl; exact CellsL.agg; intro bk hbk
      apply oas; rfl; rfl
      apply OL.storeB; rfl; rfl; exact CellsL.agg; rfl; rfl; rfl; exact Swap.au; exact Put.au
      apply OL.nx
      apply W.seq
      apply W.seq
      apply W.regd0; decide +kernel; kernel_rfl; decide +kernel; exact fun w hw => hw.drew
      apply qmv; rfl; rfl
      apply qmv; rfl; rfl
      apply qbn; rfl; rfl; rfl; apply Bin.eql
      apply qmv; rfl; rfl
      apply qno; rfl; rfl; rfl; apply Pev.fld; rfl; exact yes; rfl
      apply qno; rfl; rfl; rfl; apply Pev.load_blk; rfl; exact fun h => h; exact .head _; rfl; rfl
      apply qno; rfl; rfl; rfl; apply Pev.move; rfl; exact yes
      apply qno; rfl; rfl; rfl; apply Pev.move; rfl; exact yes
      apply qno; rfl; rfl; rfl; apply Pev.idxB; rfl; exact fun h => h; rfl; exact fun h => h; rfl; intro hcond; omega; rfl
      apply qno; rfl; rfl; rfl; apply Pev.fld; rfl; exact fun h => h; rfl
      apply qno; rfl; rfl; rfl; apply Pev.load_rowC; rfl; exact fun h => h; exact .tail _ (.head _); rfl; exact fun _ => rfl; (intro hcond; assumption); rfl; (intro hcond; omega)
      revert bk
      intro b4 hb4
      (((first | (with_reducible apply OL.op) | (with_reducible apply QL.op)); (exact Guard.au); rfl; rfl); (exact Pev.call (v := .bool (decide (((P.getD i Lp0).1 : Int) ∈ (P.getD j Lp0).2.1))) rfl (by exact Args.au) (fun _ w2 hw2 => (IContains_calls _ _ (P.getD j Lp0).2.1 ((P.getD i Lp0).1 : Int) w2 (by omega) (IntsO.mono (fun k hk => hw2.lt _ (.tail _ (.tail _ (.head _))) k hk) (hw2.item (i := pool intsP B2 Op L) (.tail _ (.tail _ (.head _))) _ (hP _ hpj)))).mono (fun e w3 h => ⟨h.1, hw2.ext h.2⟩))))
      apply qno; rfl; rfl; rfl; apply Pev.not; rfl; exact fun h => h
      apply qop; rfl; apply Pev.pick_or; rfl; exact yes; rfl; exact fun h => h
      apply QL.nil
      with_reducible apply At.next
      refine W.cond rfl (fun h3 => ?_) (fun h3 => ?_)
      · have hnext : parF (lpL P) i (j + 1) = parF (lpL P) i j := by
          rw [parF, if_neg]
          unfold better
          rw [hdi, hdj]
          simp only [Bool.and_eq_true, decide_eq_true_eq]
          rintro ⟨⟨h4, h5⟩, _⟩
          have h6 : (j : Int) = i ∨ ¬ ((P.getD i Lp0).1 : Int) ∈ (P.getD j Lp0).2.1 := by simpa using h3
          rcases h6 with h6 | h6
          · omega
          · exact h6 h5
        refine W.xt ?_
        with_reducible apply At.next
        apply W.reg
        apply obn; rfl; rfl; rfl; apply Bin.add_in; omega
        apply omv; rfl; rfl
        apply OL.nil
        exact At.again (j + 1) (by omega) (by omega) (by exact Sub.au) (fun w' hw' => by rw [hnext, hpar]; exact hw'.thin (.any (fun k hk => by rw [show k = b4 from hk]; exact hb4) (.keep (.keep Thin.nil))))
      · have h4 : j ≠ i ∧ ((P.getD i Lp0).1 : Int) ∈ (P.getD j Lp0).2.1 := by
          simp at h3
          exact ⟨by have := h3.1; omega, by simpa using h3.2⟩
        have hbet : better (lpL P) i (parF (lpL P) i j) j = (decide (parF (lpL P) i j < 0) || decide ((P.getD j Lp0).2.1.length < (P.getD (parF (lpL P) i j).toNat Lp0).2.1.length)) := by
          unfold better
          rw [hdi, hdj, decide_eq_true h4.1, decide_eq_true (show (((P.getD i Lp0).1, (P.getD i Lp0).2.1).1 : Int) ∈ ((P.getD j Lp0).1, (P.getD j Lp0).2.1).2 from h4.2), Bool.true_and, Bool.true_and]
          by_cases hb0 : parF (lpL P) i j < 0
          · rw [decide_eq_true hb0, Bool.true_or, Bool.true_or]
          · rw [lpL_get P (show (parF (lpL P) i j).toNat < P.length by omega)]
        have hnx : parF (lpL P) i (j + 1) = if better (lpL P) i (parF (lpL P) i j) j = true then (j : Int) else parF (lpL P) i j := rfl
        generalize parF (lpL P) i j = best at *
        rw [hbet] at hnx
        apply W.sk
        apply W.sr
        apply omv; rfl; rfl
        apply omv; rfl; rfl
        apply oop; rfl; apply Pev.idxB; rfl; exact yes; rfl; exact yes; rfl; intro hcond; omega; rfl
        apply ofa; rfl; rfl; rfl
        apply oop; rfl; apply Pev.load_rowC; rfl; exact yes; exact .tail _ (.head _); rfl; exact fun _ => rfl; (intro hcond; assumption); rfl; (intro hcond; omega)
        apply oas; rfl; rfl
        apply OL.nx
        apply W.seq
        apply W.regd0; decide +kernel; kernel_rfl; decide +kernel; exact fun w hw => hw.drew
        apply qmv; rfl; rfl
        apply qbn; rfl; rfl; rfl; apply Bin.lss
        apply qmv; rfl; rfl
        apply qno; rfl; rfl; rfl; apply Pev.fld; rfl; exact yes; rfl
        apply qno; rfl; rfl; rfl; apply Pev.load_blk; rfl; exact fun h => h; exact .head _; rfl; rfl
        apply qno; rfl; rfl; rfl; apply Pev.len_slice; rfl; exact fun h => h; rfl
        apply qno; rfl; rfl; rfl; apply Pev.move; rfl; exact yes
        apply qno; rfl; rfl; rfl; apply Pev.move; rfl; exact yes
        apply qno; rfl; rfl; rfl; apply Pev.idxB; rfl; exact fun h => h; rfl; exact fun h => h; rfl; intro hcond; (simp only [Bool.and_eq_true, Bool.or_eq_true, Bool.not_eq_true', decide_eq_true_eq, decide_eq_false_iff_not] at hcond; omega); rfl
        apply qno; rfl; rfl; rfl; apply Pev.fld; rfl; exact fun h => h; rfl
        rw [hpi]
        skip
        (((first | (with_reducible apply OL.op) | (with_reducible apply QL.op)); (exact Guard.au); rfl; rfl); (refine Pev.load_rowC (sz := 3) (L := List.range P.length) (i := best.toNat) (j := 1) (u := best.toNat) (v := .slice (P.getD best.toNat Lp0).2.2.1 (P.getD best.toNat Lp0).2.1.length (P.getD best.toNat Lp0).2.2.2) rfl (by (first | exact fun _ => rfl | exact fun h => h | (intro h; simp_all; done))) (.tail _ (.head _)) rfl (fun _ => rfl) (fun hc => ?_) rfl (fun _ => by omega)))
        · have : ¬ best < 0 := by simpa using hc
          rw [List.getElem?_range (by omega)]
        apply qno; rfl; rfl; rfl; apply Pev.len_slice; rfl; exact fun h => h; rfl
        apply qno; rfl; rfl; rfl; apply Pev.bin; rfl; exact fun h => h; rfl; exact fun h => h; intro hcond; apply Bin.lss
        apply qop; rfl; apply Pev.pick_or; rfl; exact yes; rfl; exact fun h => h
        apply QL.nil
        with_reducible apply At.next
        have hcond : (decide (best < 0) || decide ((P.getD j Lp0).2.1.length < (P.getD best.toNat Lp0).2.1.length)) = true ↔ best < 0 ∨ ((P.getD j Lp0).2.1.length : Int) < (P.getD best.toNat Lp0).2.1.length := by
          rw [Bool.or_eq_true, decide_eq_true_eq, decide_eq_true_eq]
          omega
        refine W.cond rfl (fun h5 => ?_) (fun h5 => ?_)
        · rw [if_pos (hcond.2 (by simpa using h5))] at hnx
          apply W.reg
          apply omv; rfl; rfl
          apply omv; rfl; rfl
          apply omv; rfl; rfl
          apply oop; rfl; apply Pev.idxB; rfl; exact yes; rfl; exact yes; rfl; intro hcond; omega; rfl
          apply ofa; rfl; rfl; rfl
          (apply OL.storeRs); rfl; rfl; rfl; rfl; rfl; (exact Hole.au); (rw [lpC_len]; omega)
          rw [show 0 + (i : Int).toNat * 3 + 2 = i * 3 + 2 by omega, lpC_set par P hil]
          apply OL.nil
          with_reducible apply At.in_normal
          with_reducible apply At.next
          apply W.reg
          apply obn; rfl; rfl; rfl; apply Bin.add_in; omega
          apply omv; rfl; rfl
          apply OL.nil
          refine At.again (j + 1) (by omega) (by omega) (by exact Sub.au) (fun w' hw' => ?_)
          rw [hnx, ← lpC_congr (par := fun k => if k = i then (j : Int) else par k) (fun k _ => by
            rw [← hpar]
            by_cases e1 : k = i
            · subst e1; simp
            · simp [e1])]
          exact hw'.thin (.any (fun k hk => by rw [show k = b4 from hk]; exact hb4) (.keep (.keep Thin.nil)))
        · rw [if_neg (fun h6 => by have h7 := hcond.1 h6; rw [Bool.or_eq_false_iff, decide_eq_false_iff_not, decide_eq_false_iff_not] at h5; omega)] at hnx
          apply W.skip
          with_reducible apply At.in_normal
          with_reducible apply At.next
          apply W.reg
          apply obn; rfl; rfl; rfl; apply Bin.add_in; omega
          apply omv; rfl; rfl
          apply OL.nil
          exact At.again (j + 1) (by omega) (by omega) (by exact Sub.au) (fun w' hw' => by rw [hnx, hpar]; exact hw'.thin (.any (fun k hk => by rw [show k = b4 from hk]; exact hb4) (.keep (.keep Thin.nil))))
    · obtain rfl : j = P.length := by omega
      refine W.xt ?_
      with_reducible apply At.in_normal
      with_reducible apply At.next
      apply W.reg
      apply obn; rfl; rfl; rfl; apply Bin.add_in; omega
      apply omv; rfl; rfl
      apply OL.nil
      refine At.again (i + 1) (by omega) (by omega) (by exact Sub.au) (fun w' hw' => ?_)
      rw [lpC_congr (par' := fun k => if k < i then parF (lpL P) k P.length else if k = i then parF (lpL P) i P.length else -1) (fun k _ => by
        by_cases e : k = i
        · subst e; rw [if_pos (by omega), if_neg (by omega), if_pos rfl]
        · rw [if_neg e]; split <;> split <;> first | rfl | omega)]
      exact hw'
  · obtain rfl : i = P.length := by omega
    refine W.xt ?_
    refine At.end_ (At.fin0 rfl (fun w' hw' => ⟨rfl, ?_⟩))
    rw [lpC_congr (par' := fun k => if k < P.length then parF (lpL P) k P.length else -1) (fun k hk => (if_pos hk).symm)]
    exact hw'
end Go.Proofs.Ytehelljmaiophaa.ss

/- The walk of loops' Find. Conditions: none. -/
namespace Go.Eng
set_option linter.unusedVariables false
set_option linter.unusedSimpArgs false
open Go.RowKit
theorem Cls.pool_itemL {α μ : Type} {R : Rel α μ} {H : List Item} {S : List World} {w : World} {B : Nat} {O : Nat → Prop} {L : List (α × μ)} {i : Item} {x : α} {y : μ} (h : Cls (i :: pool R B O L :: H) S w) (hB : ∀ k, i.own k → B ≤ k) (hok : R.ok w i.own x y) : Cls (pool R B (fun k => O k ∨ i.own k) (L ++ [(x, y)]) :: H) S w := by
  have hp := h.item (i := pool R B O L) (by simp)
  have hd := h.dj
  rw [List.pairwise_cons, List.pairwise_cons] at hd
  obtain ⟨hr1, hp1, hH⟩ := hd
  refine ⟨fun j hj => ?_, fun j hj => ?_, ?_, fun s hs => (h.kp s hs).mono fun k _ ⟨j, hj, hk⟩ => ?_⟩
  · rcases List.mem_cons.1 hj with rfl | hj
    · intro p hpm
      rcases List.mem_append.1 hpm with hpm | hpm
      · exact R.mono (fun k hk => ⟨hk.1, .inl hk.2⟩) (hp p hpm)
      · obtain rfl := List.mem_singleton.1 hpm
        exact R.mono (fun k hk => ⟨hB k hk, .inr hk⟩) hok
    · exact h.holds j (by simp [hj])
  · rcases List.mem_cons.1 hj with rfl | hj
    · rintro k ⟨h1, h2 | h2⟩
      · exact h.lt (pool R B O L) (by simp) k ⟨h1, h2⟩
      · exact h.lt i (by simp) k h2
    · exact h.lt j (by simp [hj])
  · refine List.pairwise_cons.2 ⟨fun j hj k hk hj2 => ?_, hH⟩
    obtain ⟨h1, h2 | h2⟩ := hk
    · exact hp1 j hj k ⟨h1, h2⟩ hj2
    · exact hr1 j (by simp [hj]) k h2 hj2
  · rcases List.mem_cons.1 hj with rfl | hj
    · exact ⟨_, .head _, hB k hk, .inr hk⟩
    · rcases List.mem_cons.1 hj with rfl | hj
      · exact ⟨_, .head _, hk.1, .inl hk.2⟩
      · exact ⟨j, by simp [hj], hk⟩
end Go.Eng
namespace Go.Ss
set_option linter.unusedVariables false
set_option linter.unusedSimpArgs false
open Go.Eng Go.RowKit
set_option linter.unusedVariables false
set_option linter.unusedSimpArgs false
theorem rowOwnL {w : World} {B m cap : Nat} {O : Nat → Prop} {q : Option Addr} {e : TypeId} {l : List Int} (h : (row B O q m cap e 1 (ints l)).holds w) : IntsO w (row B O q m cap e 1 (ints l)).own l q := fun hl => by
  obtain ⟨a, h1, h2, h3⟩ := SlAt.of_row h (by rw [ints_length]; exact hl)
  refine ⟨a, h1, ?_, h3⟩
  rcases h.2.2 with ⟨h4, h5⟩ | ⟨g, cap', cur, h4, h5, _⟩
  · simp only [Value.slice.injEq] at h4
    rw [h4.1] at h1; cases h1
  · simp only [Value.slice.injEq] at h4
    rw [h4.1] at h1
    obtain rfl := Option.some.inj h1
    exact ⟨h5, h.1 _ h4.1⟩
theorem ints_oneL : ∀ (l : List Int), oneL (ints l) = true
  | [] => rfl
  | b :: l => by
    show (Value.oneCell' (.int .i64 b) && oneL (ints l)) = true
    rw [ints_oneL l]; rfl
theorem lpC_snoc (P : List Lp) (p : Lp) : lpC (fun _ => -1) (P ++ [p]) = lpC (fun _ => -1) P ++ [.int .i64 (p.1 : Int), .slice p.2.2.1 p.2.1.length p.2.2.2, .int .i64 (-1)] := by
  unfold lpC
  rw [List.length_append, List.length_singleton, List.range_succ, cat_append, cat_one]
  congr 1
  · have key : ∀ l : List Nat, (∀ i ∈ l, i < P.length) → cat (lpE (fun _ => -1) (P ++ [p])) l = cat (lpE (fun _ => -1) P) l := by
      intro l
      induction l with
      | nil => intro _; rfl
      | cons i l ih =>
        intro hl
        have hi := hl i (.head _)
        show lpE _ (P ++ [p]) i ++ cat _ l = lpE _ P i ++ cat _ l
        rw [ih fun j hj => hl j (.tail _ hj)]
        congr 1
        unfold lpE
        rw [List.getD_eq_getElem?_getD, List.getD_eq_getElem?_getD, List.getElem?_append_left hi]
    exact key _ fun i hi => List.mem_range.1 hi
  · unfold lpE
    rw [List.getD_eq_getElem?_getD, List.getElem?_append_right (Nat.le_refl _), Nat.sub_self]
    rfl
/-- the ends of the first edges that lead to h -/
def srcsL (E : List (Nat × Nat)) (h k : Nat) : List Int := ((E.take k).filter fun p => decide (p.2 = h)).map fun p => (p.1 : Int)
theorem srcsL_succ {E : List (Nat × Nat)} {h k : Nat} {p : Nat × Nat} (hp : E[k]? = some p) : srcsL E h (k + 1) = srcsL E h k ++ if p.2 = h then [(p.1 : Int)] else [] := by
  unfold srcsL
  rw [List.take_add_one, hp, Option.toList_some, List.filter_append, List.map_append]
  congr 1
  rw [List.filter_cons]
  by_cases e : p.2 = h
  · simp [e]
  · simp [e]
theorem srcsL_len (E : List (Nat × Nat)) (h k : Nat) : (srcsL E h k).length ≤ k := by
  unfold srcsL
  rw [List.length_map]
  exact Nat.le_trans (List.length_filter_le _ _) (by rw [List.length_take]; omega)
theorem srcsL_mem {G : List (List Int)} {E : List (Nat × Nat)} (hE : ∀ b h, (b, h) ∈ E ↔ BackE G b h) (h : Nat) (v : Int) : v ∈ srcsL E h E.length ↔ ∃ p : Nat, v = (p : Int) ∧ BackE G p h := by
  unfold srcsL
  rw [List.take_length]
  simp only [List.mem_map, List.mem_filter, decide_eq_true_eq]
  constructor
  · rintro ⟨⟨b, h'⟩, ⟨h1, h2⟩, h3⟩
    simp only at h2 h3
    subst h2
    exact ⟨b, h3.symm, (hE _ _).1 h1⟩
  · rintro ⟨p, h1, h2⟩
    exact ⟨(p, h), ⟨(hE _ _).2 h2, rfl⟩, h1.symm⟩
end Go.Ss
namespace Go.Proofs.Ytehelljmaiophaa.ss
set_option linter.unusedVariables false
set_option linter.unusedSimpArgs false
set_option maxRecDepth 100000
open Go.Eng Go.RowKit Go.Ss
set_option linter.unusedVariables false
set_option linter.unusedSimpArgs false
theorem Find_calls (fn : Go.Ss.Fn) (y : FnY) (w : World) (hfn : FnOk w (low w) fn y) :
    Calls Try.prog 51 [.agg (fnC fn y).toArray].toArray w fun e w' => Ext w w' ∧ ((funcE fn ≠ 0 ∧ e = .returned (.tuple #[.slice none 0 0, .int .i64 (funcE fn)])) ∨ (funcE fn = 0 ∧ ∃ (P : List Lp) (q : Option Addr) (c : Nat), e = .returned (.tuple #[.slice q P.length c, .int .i64 0]) ∧ lpL P = lpsL (graphB fn.blocks) ∧ SlAt w' w'.heap.size q (lpC (fun i => parF (lpL P) i P.length) P) ∧ ∀ p ∈ P, IntsO w' (low w') p.2.1 p.2.2.1)) := by
  have hfn0 := hfn
  obtain ⟨es, hes, he⟩ := hfn.b
  obtain ⟨nm, bs⟩ := fn
  obtain ⟨q, cap⟩ := y
  have hbl := hfn.bl
  simp only at hes he hbl
  have hbl2 : bs.length = es.length := by rw [← hes, List.length_map]
  have hF : ∀ (H : List Eng.Item) (S : List World) (w2 : World), Cls H S w2 → w ∈ S → (∀ k, k < w.heap.size → NotOwned H k) → FnOk w2 (low w2) ⟨nm, bs⟩ ⟨q, cap⟩ := fun H S w2 hw2 hs hno => fnR.mono (hw2.up hs) (fnR.stab (hw2.same hs hno) hfn0)
  obtain ⟨er, her⟩ : ∃ er, funcE ⟨nm, bs⟩ = er := ⟨_, rfl⟩
  obtain ⟨G, hG⟩ : ∃ G, graphB bs = G := ⟨_, rfl⟩
  have hGl : G.length = es.length := by rw [← hG]; simp [graphB, hbl2]
  have hBk := fun w2 (H : List Eng.Item) (S : List World) hw2 hs hno => backs_calls ⟨nm, bs⟩ ⟨q, cap⟩ w2 (hF H S w2 hw2 hs hno)
  have hRa := fun w2 (H : List Eng.Item) (S : List World) hw2 hs hno => Reachable_ext ⟨nm, bs⟩ ⟨q, cap⟩ w2 (hF H S w2 hw2 hs hno)
  have hPr := fun w2 (H : List Eng.Item) (S : List World) hw2 hs hno => CPreds_calls ⟨nm, bs⟩ ⟨q, cap⟩ w2 (hF H S w2 hw2 hs hno)
  simp only [fnC, her, hG, hbl2, ← hGl, ← rl.eq_1] at hBk hRa hPr ⊢
  refine enter Try.func51 rfl Try.ntmps51 rfl (Cls.start w) ?_
  (simp only [argEnv, Nat.zero_add, Nat.reduceAdd])
  apply W.sr
  apply OL.box; rfl; rfl; exact CellsL.agg; (intro bk hbk; simp only [AllLe, and_true] at hbk)
  apply oas; rfl; rfl
  apply oas; rfl; rfl
  apply OL.nsr
  apply oop; rfl; apply Pev.load_blkA; rfl; exact yes; exact .head _; rfl; exact Take.au
  revert bk
  intro b1 hb1x
  have hb1 : w.heap.size ≤ b1 := by first | exact hb1x | exact hb1x.1
  refine OL.frzD (C' := fun w0 => Cls [] [w0, w]) (fun w0 hc0 => (hc0.thin (.any (fun k hk => by rw [show k = b1 from hk]; exact ⟨hb1, trivial⟩) Thin.nil)).note) (fun w0 hc0 => ?_)
  have hb10 : b1 < w0.heap.size := blk_lt (hc0.item (.head _))
  have hw0 : w.heap.size ≤ w0.heap.size := (hc0.kp w (.head _)).size
  have hcF : CellsAt w0 ⟨b1, 0, none⟩ [.int .i64 nm, .slice q G.length cap] := fun j v hj => by
    rw [add_mid, blk_cell (hc0.item (.head _)), Nat.zero_add]
    exact hj
  have hcF1 : w0.cell? ⟨b1, 0 + 1, none⟩ = some (.slice q G.length cap) := hcF 1 _ rfl
  by_cases hne : er ≠ 0
  · (((first | (with_reducible apply OL.op) | (with_reducible apply QL.op)); (exact Guard.au); rfl; rfl); (exact Pev.call (v := .tuple #[.slice none 0 0, .int .i64 er]) rfl (by exact Args.au) (fun _ w2 hw2 => (hBk w2 _ _ hw2 (by exact mau) (fun k hk => NotOwned.nil)).mono (fun e w3 h => ⟨by rcases h.2 with h2 | h2; exact h2.2; exact absurd h2.1 hne, hw2.ext h.1⟩))))
    apply omv; rfl; rfl
    apply oex; rfl; rfl; rfl
    apply oex; rfl; rfl; rfl
    apply oas; rfl; rfl
    apply oas; rfl; rfl
    apply OL.nx
    apply W.seq
    apply W.sr
    apply omv; rfl; rfl
    apply obn; rfl; rfl; rfl; apply Bin.neq
    apply OL.nx
    refine W.cond rfl (fun _ => ?_) (fun h => by simp at h; exact absurd h hne)
    apply W.sr
    apply omv; rfl; rfl
    apply oas; rfl; rfl
    apply oas; rfl; rfl
    apply OL.nx
    refine W.rt ?_
    ((with_reducible apply At.fin2); rfl; rfl; rfl; intro w' hw')
    exact ⟨hw'.fr (by exact mau) (fun k hk => NotOwned.nil), .inl ⟨hne, rfl⟩⟩
  obtain rfl : er = 0 := Classical.not_not.1 hne
  obtain ⟨h0, h128, hs0⟩ := func_zero her
  simp only at h0 h128 hs0
  have hGE : ∀ l ∈ G, ∀ x ∈ l, 0 ≤ x ∧ x < (G.length : Int) := fun l hl x hx => by
    rw [← hG] at hl
    obtain ⟨b, hb, rfl⟩ := List.mem_map.1 hl
    obtain ⟨e, he, rfl⟩ := List.mem_map.1 hx
    have := shape_edges hs0 b hb e he
    omega
  have hG0 : 0 < G.length := by omega
  have hGn : G.length ≤ 128 := by omega
  have hord := ordOk hGE hG0
  have hrl := rl_len hGE hG0
  have hrs := rl_sorted hGE hG0
  have hGM : ∀ l ∈ G, l.length ≤ 257 := fun l hl => by
    rw [← hG] at hl
    obtain ⟨b, hb, rfl⟩ := List.mem_map.1 hl
    rw [List.length_map]
    exact to_len hs0 hb
  have hPl : ∀ k : Int, (predsF G 0 k).length ≤ 128 * 257 := fun k => Nat.le_trans (predsF_len (M := 257) hGM) (Nat.mul_le_mul_right _ hGn)
  refine OL.callE (α := ((Option Addr × Nat) × List (Nat × Nat)) × World) (fun z => .tuple #[.slice z.1.1.1 z.1.2.length z.1.1.2, .int .i64 0]) (fun z => w0.heap.size ≤ z.2.heap.size ∧ Arr beR z.2 (low z.2) (z.1.2.map fun p => (p, ())) z.1.1.1 ∧ z.1.2.length ≤ 128 * 257 ∧ ∀ b h, (b, h) ∈ z.1.2 ↔ BackE G b h) (fun z => Cls [] [z.2, w0, w]) rfl rfl (by exact Args.au) (fun w2 hw2 => (hBk w2 _ _ hw2 (by exact mau) (fun k hk => NotOwned.nil)).mono fun e w3 ⟨h2, h3⟩ => ?_) ?_
  · rcases h3 with ⟨h3, _⟩ | ⟨_, E, q', c', h4, h5⟩
    · exact absurd rfl h3
    · exact ⟨(((q', c'), E), w3), h4, ⟨((hw2.ext h2).kp w0 (by exact mau)).size, h5⟩, (hw2.ext h2).note⟩
  rintro ⟨⟨⟨qe, ce⟩, E⟩, wE⟩ ⟨hw0E, hArr, hEl, hE⟩
  simp only at hw0E hArr hEl hE ⊢
  apply omv; rfl; rfl
  apply oex; rfl; rfl; rfl
  apply oex; rfl; rfl; rfl
  apply oas; rfl; rfl
  apply oas; rfl; rfl
  apply OL.nx
  apply W.seq
  apply W.sr
  apply omv; rfl; rfl
  apply obn; rfl; rfl; rfl; apply Bin.neq
  apply OL.nx
  refine W.cond rfl (fun h => by simp at h) (fun _ => ?_)
  apply W.sk
  apply W.sr
  apply oop; rfl; apply Pev.load_keptA; rfl; exact yes; exact .tail _ (.head _); rfl; intro hcond; assumption; rfl; intro hcond; assumption; intro hcond; exact NotOwned.au
  refine OL.callE (α := (Option Addr × Nat) × World) (fun z => .tuple #[.slice z.1.1 (rl G).length z.1.2, .int .i64 0]) (fun z => wE.heap.size ≤ z.2.heap.size ∧ IntsO z.2 (low z.2) (rl G) z.1.1) (fun z => Cls [] [z.2, wE, w0, w]) rfl rfl (by exact Args.au) (fun w2 hw2 => (hRa w2 _ _ hw2 (by exact mau) (fun k hk => NotOwned.nil)).mono fun e w3 ⟨h2, h3⟩ => ?_) ?_
  · rcases h3 with ⟨h3, _⟩ | ⟨_, q', c', h4, h5⟩
    · exact absurd rfl h3
    · exact ⟨((q', c'), w3), h4, ⟨((hw2.ext h2).kp wE (by exact mau)).size, h5⟩, (hw2.ext h2).note⟩
  rintro ⟨⟨qr, cr⟩, wR⟩ ⟨hwER, hIR⟩
  simp only at hwER hIR ⊢
  apply omv; rfl; rfl
  apply oex; rfl; rfl; rfl
  apply oex; rfl; rfl; rfl
  apply oas; rfl; rfl
  apply oas; rfl; rfl
  apply OL.nsr
  apply oop; rfl; apply Pev.load_keptA; rfl; exact yes; exact .tail _ (.tail _ (.head _)); rfl; intro hcond; assumption; rfl; intro hcond; assumption; intro hcond; exact NotOwned.au
  refine OL.callE (α := Nat × World) (fun z => .tuple #[.slice (some ⟨z.1, 0, none⟩) G.length G.length, .int .i64 0]) (fun z => wR.heap.size ≤ z.2.heap.size ∧ z.1 < z.2.heap.size ∧ ∀ k : Nat, k < G.length → ∃ (q : Option Addr) (c : Nat), z.2.cell? ⟨z.1, k, none⟩ = some (.slice q (predsF G 0 (k : Int)).length c) ∧ IntsO z.2 (low z.2) (predsF G 0 (k : Int)) q) (fun z => Cls [] [z.2, wR, wE, w0, w]) rfl rfl (by exact Args.au) (fun w2 hw2 => (hPr w2 _ _ hw2 (by exact mau) (fun k hk => NotOwned.nil)).mono fun e w3 ⟨h2, h3⟩ => ?_) ?_
  · rcases h3 with ⟨h3, _⟩ | ⟨_, bO, h4, h5, h6⟩
    · exact absurd rfl h3
    · exact ⟨(bO, w3), h4, ⟨((hw2.ext h2).kp wR (by exact mau)).size, h5, h6⟩, (hw2.ext h2).note⟩
  rintro ⟨bO, wP⟩ ⟨hwRP, hbO, hO⟩
  simp only at hwRP hbO hO ⊢
  have hA : ∀ b, wP.heap.size ≤ b → AllLe [wP, wR, wE, w0, w] b := fun b hb => ⟨hb, Nat.le_trans hwRP hb, Nat.le_trans (Nat.le_trans hwER hwRP) hb, Nat.le_trans (Nat.le_trans (Nat.le_trans hw0E hwER) hwRP) hb, Nat.le_trans (Nat.le_trans (Nat.le_trans (Nat.le_trans hw0 hw0E) hwER) hwRP) hb, trivial⟩
  apply omv; rfl; rfl
  apply oex; rfl; rfl; rfl
  apply oex; rfl; rfl; rfl
  apply oas; rfl; rfl
  apply oas; rfl; rfl
  apply OL.nsr
  apply oas; rfl; rfl
  apply OL.nx
  apply W.seq
  apply W.sr
  apply ofa; rfl; rfl; rfl
  apply oop; rfl; apply Pev.load_kept; rfl; exact yes; exact .tail _ (.tail _ (.tail _ (.head _))); rfl; intro hcond; assumption; intro hcond; assumption; intro hcond; exact NotOwned.au
  apply oop; rfl; apply Pev.len_slice; rfl; exact yes; rfl
  apply omv; rfl; rfl
  apply OL.nx
  apply W.block
  refine W.loop (G := Nat × GR × List Lp × (Nat → Prop) × List (List Int × Sc)) (fun z => z.1 ≤ G.length ∧ lpL z.2.2.1 = (hdrL G z.1).map (fun h => (h, memL G h)) ∧ ∀ p ∈ z.2.2.1, p.2 ∈ z.2.2.2.2) (fun z => G.length - z.1)
    (fun z => [(4, true, .slice qe E.length ce), (6, true, .slice qr (rl G).length cr), (8, true, .slice (some ⟨bO, 0, none⟩) G.length G.length), (10, true, .slice z.2.1.q z.2.2.1.length z.2.1.c), (39, true, .int .i64 (G.length : Int)), (40, true, .int .i64 (z.1 : Int))])
    (fun z => Cls [row wP.heap.size z.2.1.O z.2.1.q z.2.2.1.length z.2.1.c 83 3 (lpC (fun _ => -1) z.2.2.1), pool intsP wP.heap.size z.2.2.2.1 z.2.2.2.2] [wP, wR, wE, w0, w]) (0, ⟨fun _ => False, none, 0⟩, [], fun _ => False, []) ⟨by simp, rfl, fun p hp => by simp at hp⟩ (by exact Sub.au) (fun w' hw' => (hw'.pool_nil intsP wP.heap.size).row_nil wP.heap.size 83 3) ?_
  rintro ⟨h, ⟨O0, q0, c0⟩, P, Op, L⟩ ⟨hh, hP, hPL⟩
  simp only at hh hP hPL ⊢
  have hPlen : P.length ≤ h := by
    have h1 := congrArg List.length hP
    unfold lpL at h1
    rw [List.length_map, List.length_map] at h1
    rw [h1]
    exact hdrL_len G h
  apply W.sr
  apply obn; rfl; rfl; rfl; apply Bin.lss
  apply OL.nx
  apply W.seq
  (refine W.cnd (fun hlt => ?_) (fun hlt => ?_)) <;> (try (exfalso; first | omega | exact hlt trivial | contradiction))
  · have hhl : h < G.length := by omega
    apply W.sk
    apply W.sb
    apply W.sr
    apply omv; rfl; rfl
    apply oas; rfl; rfl
    apply OL.nsr
    apply oas; rfl; rfl
    apply OL.nx
    apply W.seq
    apply W.sr
    apply omv; rfl; rfl
    apply oop; rfl; apply Pev.len_slice; rfl; exact yes; rfl
    apply omv; rfl; rfl
    apply OL.nx
    apply W.block
    refine W.loop (G := Nat × GR) (fun z => z.1 ≤ E.length) (fun z => E.length - z.1)
      (fun z => [(4, true, .slice qe E.length ce), (6, true, .slice qr (rl G).length cr), (8, true, .slice (some ⟨bO, 0, none⟩) G.length G.length), (10, true, .slice q0 P.length c0), (11, true, .int .i64 (h : Int)), (12, true, .slice z.2.q (srcsL E h z.1).length z.2.c), (39, true, .int .i64 (G.length : Int)), (40, true, .int .i64 (h : Int)), (43, true, .slice qe E.length ce), (44, true, .int .i64 (E.length : Int)), (45, true, .int .i64 (z.1 : Int))])
      (fun z => Cls [row wP.heap.size z.2.O z.2.q (srcsL E h z.1).length z.2.c 3 1 (ints (srcsL E h z.1)), row wP.heap.size O0 q0 P.length c0 83 3 (lpC (fun _ => -1) P), pool intsP wP.heap.size Op L] [wP, wR, wE, w0, w]) (0, ⟨fun _ => False, none, 0⟩) (by simp) (by exact Sub.au) (fun w' hw' => hw'.row_nil wP.heap.size 3 1) ?_
    rintro ⟨j, ⟨Oa, qa, ca⟩⟩ hj
    simp only at hj ⊢
    have hsl := srcsL_len E h j
    apply W.sr
    apply obn; rfl; rfl; rfl; apply Bin.lss
    apply OL.nx
    apply W.seq
    (refine W.cnd (fun hlt2 => ?_) (fun hlt2 => ?_)) <;> (try (exfalso; first | omega | exact hlt2 trivial | contradiction))
    · have hjl : j < E.length := by omega
      obtain ⟨ae, u, hqt, hatb, hu, hcu, _⟩ := hArr.get (show j < (E.map fun p => (p, ())).length by rw [List.length_map]; exact hjl)
      have hatb : ae.block < wE.heap.size := hatb
      obtain ⟨⟨eb, eh⟩, heu, rfl⟩ : ∃ p, E[j]? = some p ∧ (p, ()) = u := by
        rw [List.getElem?_map] at hu
        cases h1 : E[j]? with
        | none => rw [h1] at hu; cases hu
        | some p => rw [h1] at hu; exact ⟨p, rfl, Option.some.inj hu⟩
      have hcu : CellsAt wE (ae.add (j * 2)) [.int .i64 (eb : Int), .int .i64 (eh : Int)] := hcu
      have hsucc := srcsL_succ (h := h) heu
      generalize srcsL E h j = Ws at *
      rw [hqt]
      apply W.sk
      apply W.sb
      apply W.sr
      apply oop; rfl; apply Pev.idx; rfl; exact yes; rfl; exact yes; rfl; rfl; intro hcond; omega
      apply oop; rfl; apply Pev.load_keptA; rfl; exact yes; exact .tail _ (.tail _ (.head _)); rfl; intro hcond; assumption; rfl; intro hcond; (rw [add_block]; assumption); intro hcond; exact NotOwned.au
      apply OL.alloc; rfl; rfl; exact CellsL.agg; (intro bk hbk; simp only [AllLe, and_true] at hbk)
      apply OL.storeB; rfl; rfl; exact CellsL.agg; rfl; rfl; rfl; exact Swap.au; exact Put.au
      apply OL.nsr
      apply ofa; rfl; rfl; rfl
      apply old; rfl; rfl; exact .head _; rfl; rfl
      apply omv; rfl; rfl
      apply obn; rfl; rfl; rfl; apply Bin.eql
      apply OL.nx
      revert bk
      intro b14 hb14x
      have hb14 : wP.heap.size ≤ b14 := by first | exact hb14x | exact hb14x.1
      skip
      (refine W.cnd (fun heh => ?_) (fun heh => ?_)) <;> (try (exfalso; first | omega | exact heh trivial | contradiction))
      · have heh2 : eh = h := by omega
        rw [if_pos heh2] at hsucc
        apply W.reg
        apply omv; rfl; rfl
        apply ofa; rfl; rfl; rfl
        apply old; rfl; rfl; exact .head _; rfl; rfl
        apply OL.buildSlice; rfl; rfl; rfl; exact Elems.au; rfl; rfl; (intro bk hbk; simp only [AllLe, and_true] at hbk)
        apply OL.append; rfl; rfl; rfl; rfl; exact Hole.au; exact .head _; exact Take.au; rfl; rfl; exact ⟨_, .head _, Nat.le_refl _⟩; omega; intro O1 g1 cap1
        apply oas; rfl; rfl
        apply OL.nil
        with_reducible apply At.in_normal
        with_reducible apply At.next
        apply W.reg
        apply obn; rfl; rfl; rfl; apply Bin.add_in; omega
        apply omv; rfl; rfl
        apply OL.nil
        refine At.again (j + 1, ⟨O1, some ⟨g1, 0, none⟩, cap1⟩) (by simp only; omega) (by simp only; omega) (by simp only [hsucc, List.length_append, List.length_cons, List.length_nil]; exact Sub.au) (fun w' hw' => ?_)
        simp only [hsucc, ints_append, List.length_append, List.length_cons, List.length_nil]
        exact hw'.thin (.any (fun k hk => by rw [show k = bk from hk]; exact hA bk hbk.1) (.any (fun k hk => by rw [show k = b14 from hk]; exact hA b14 hb14) (.keep (.keep (.keep Thin.nil)))))
      · have heh2 : ¬ eh = h := by omega
        rw [if_neg heh2, List.append_nil] at hsucc
        apply W.skip
        with_reducible apply At.in_normal
        with_reducible apply At.next
        apply W.reg
        apply obn; rfl; rfl; rfl; apply Bin.add_in; omega
        apply omv; rfl; rfl
        apply OL.nil
        exact At.again (j + 1, ⟨Oa, qa, ca⟩) (by simp only; omega) (by simp only; omega) (by simp only [hsucc]; exact Sub.au) (fun w' hw' => by simp only [hsucc]; exact hw'.thin (.any (fun k hk => by rw [show k = b14 from hk]; exact hA b14 hb14) (.keep (.keep (.keep Thin.nil)))))
    · obtain rfl : j = E.length := by omega
      have hsm := srcsL_mem hE h
      generalize hWs : srcsL E h E.length = Ws at *
      refine W.xt ?_
      with_reducible apply At.next
      apply W.seq
      apply W.sr
      apply omv; rfl; rfl
      apply oop; rfl; apply Pev.len_slice; rfl; exact yes; rfl
      apply obn; rfl; rfl; rfl; apply Bin.eql
      apply OL.nx
      by_cases hW0 : Ws = []
      · subst hW0
        have hnh : ¬ IsH G h := fun ⟨p, hp⟩ => by
          have := (hsm p).2 ⟨p, rfl, hp⟩
          simp at this
        refine W.cond rfl (fun _ => ?_) (fun h3 => by simp at h3)
        refine W.xt ?_
        with_reducible apply At.next
        apply W.reg
        apply obn; rfl; rfl; rfl; apply Bin.add_in; omega
        apply omv; rfl; rfl
        apply OL.nil
        refine At.again (h + 1, ⟨O0, q0, c0⟩, P, Op, L) ⟨by simp only; omega, by simp only; rw [hP, (hdrL_succ G h).2 hnh], hPL⟩ (by simp only; omega) (by exact Sub.au) (fun w' hw' => hw'.thin (.any (fun k hk => hA k hk.1) (.keep (.keep Thin.nil))))
      have hWl : 0 < Ws.length := List.length_pos_iff.2 hW0
      refine W.cond rfl (fun h3 => by simp at h3; exact absurd h3 hW0) (fun _ => ?_)
      have hih : IsH G h := by
        obtain ⟨v, hv⟩ := List.exists_mem_of_length_pos hWl
        obtain ⟨p, _, hp⟩ := (hsm v).1 hv
        exact ⟨p, hp⟩
      apply W.sk
      apply W.sr
      apply omv; rfl; rfl
      apply OL.buildSlice; rfl; rfl; rfl; exact Elems.au; rfl; rfl; (intro bk hbk; simp only [AllLe, and_true] at hbk)
      apply oas; rfl; rfl
      apply OL.nx
      apply W.sb
      revert bk
      intro b15 hb15x
      have hb15 : wP.heap.size ≤ b15 := by first | exact hb15x | exact hb15x.1
      refine W.cls (C' := Cls [row wP.heap.size (fun k => k = b15) (some ⟨b15, 0, none⟩) 1 1 3 1 (ints [(h : Int)]), row wP.heap.size Oa qa Ws.length ca 3 1 (ints Ws), row wP.heap.size O0 q0 P.length c0 83 3 (lpC (fun _ => -1) P), pool intsP wP.heap.size Op L] [wP, wR, wE, w0, w]) (fun w' hw' => hw'.blk_row hb15 rfl (by decide)) ?_
      obtain ⟨K, hK⟩ : ∃ K : Nat, K = 32896 := ⟨_, rfl⟩
      have hPK : ∀ k : Int, (predsF G 0 k).length ≤ K := fun k => by have := hPl k; omega
      have hWlen : Ws.length ≤ K := by
        have := srcsL_len E h E.length
        rw [hWs] at this
        omega
      refine W.loop (G := (List Int × GR) × List Int × GR) (fun z => LS G h z.1.1 z.2.1 ∧ z.2.1.length ≤ K + z.1.1.length * K) (fun z => (G.length - z.1.1.length) * (K + 1) + z.2.1.length)
        (fun z => [(4, true, .slice qe E.length ce), (6, true, .slice qr (rl G).length cr), (8, true, .slice (some ⟨bO, 0, none⟩) G.length G.length), (10, true, .slice q0 P.length c0), (11, true, .int .i64 (h : Int)), (12, true, .slice z.2.2.q z.2.1.length z.2.2.c), (15, true, .slice z.1.2.q z.1.1.length z.1.2.c), (39, true, .int .i64 (G.length : Int)), (40, true, .int .i64 (h : Int))])
        (fun z => Cls [row wP.heap.size z.1.2.O z.1.2.q z.1.1.length z.1.2.c 3 1 (ints z.1.1), row wP.heap.size z.2.2.O z.2.2.q z.2.1.length z.2.2.c 3 1 (ints z.2.1), row wP.heap.size O0 q0 P.length c0 83 3 (lpC (fun _ => -1) P), pool intsP wP.heap.size Op L] [wP, wR, wE, w0, w])
        (([(h : Int)], ⟨fun k => k = b15, some ⟨b15, 0, none⟩, 1⟩), Ws, ⟨Oa, qa, ca⟩) ⟨LS.start hGE hih hsm, by simp only [List.length_cons, List.length_nil]; omega⟩ (by exact Sub.au) (fun w' hw' => hw') ?_
      rintro ⟨⟨Bs, ⟨Ob, qb, cb⟩⟩, Ws, ⟨Ow, qw, cw⟩⟩ ⟨hLS, hWlen⟩
      simp only at hLS hWlen ⊢
      have hBl := hLS.len
      have hbn : Bs.length * K ≤ 128 * K := Nat.mul_le_mul_right _ (by omega)
      apply W.seq
      apply W.sr
      apply omv; rfl; rfl
      apply oop; rfl; apply Pev.len_slice; rfl; exact yes; rfl
      apply obn; rfl; rfl; rfl; apply Bin.gtr
      apply OL.nx
      rcases List.eq_nil_or_concat Ws with rfl | ⟨Wr, v, rfl⟩
      · refine W.cond rfl (fun h3 => by simp at h3) (fun _ => ?_)
        refine W.xt ?_
        with_reducible apply At.next
        apply W.sr
        apply omv; rfl; rfl
        refine OL.callE (α := Unit) (fun _ => .tuple #[]) (fun _ => True) (fun _ => Cls [row wP.heap.size Ob qb Bs.length cb 3 1 (ints (isrt Bs)), row wP.heap.size Ow qw [].length cw 3 1 (ints []), row wP.heap.size O0 q0 P.length c0 83 3 (lpC (fun _ => -1) P), pool intsP wP.heap.size Op L] [wP, wR, wE, w0, w]) rfl rfl (by exact Args.au) (fun w2 hw2 => (SortI_calls (xs := Bs) .z hw2 (by omega)).mono fun e w3 ⟨h1, h2⟩ => ⟨(), h1, trivial, h2⟩) ?_
        rintro _ _
        have hso := hLS.sorted hGE
        have hml : (memL G h).length = Bs.length := by rw [← hso, isrt_len]
        rw [hso]
        apply OL.nx
        apply W.reg
        apply omv; rfl; rfl
        apply omv; rfl; rfl
        apply omv; rfl; rfl
        apply oop; rfl; apply Pev.build; rfl; exact CellsL.agg; rfl; exact Fill.au; rfl
        apply OL.buildSlice; rfl; rfl; rfl; exact Elems.au; rfl; rfl; (intro bk hbk; simp only [AllLe, and_true] at hbk)
        apply OL.append; rfl; rfl; rfl; rfl; exact Hole.au; exact .head _; exact Take.au; rfl; rfl; exact ⟨_, .head _, Nat.le_refl _⟩; omega; intro O1 g1 cap1
        apply oas; rfl; rfl
        apply OL.nil
        with_reducible apply At.in_normal
        with_reducible apply At.next
        apply W.reg
        apply obn; rfl; rfl; rfl; apply Bin.add_in; omega
        apply omv; rfl; rfl
        apply OL.nil
        refine At.again (h + 1, ⟨O1, some ⟨g1, 0, none⟩, cap1⟩, P ++ [(h, memL G h, (qb, cb))], (fun k => Op k ∨ (row wP.heap.size Ob qb Bs.length cb 3 1 (ints (memL G h))).own k), L ++ [(memL G h, (qb, cb))]) ⟨by simp only; omega, ?_, fun p hp => ?_⟩ (by simp only; omega) (by simp only [List.length_append, List.length_cons, List.length_nil]; exact Sub.au) (fun w' hw' => ?_)
        · simp only
          rw [(hdrL_succ G h).1 hih, List.map_append, ← hP]
          simp [lpL]
        · rcases List.mem_append.1 hp with hp | hp
          · exact List.mem_append_left _ (hPL p hp)
          · rw [List.mem_singleton.1 hp]
            exact List.mem_append_right _ (.head _)
        · simp only [List.length_append, List.length_cons, List.length_nil]
          rw [lpC_snoc]
          simp only [hml]
          have h1 := hw'.thin (.any (fun k hk => by rw [show k = bk from hk]; exact hA bk hbk.1) (.keep (.any (fun k hk => hA k hk.1) (.keep (.keep Thin.nil)))))
          have h2 := h1.perm (List.Perm.cons _ (List.Perm.swap _ _ _))
          have h3 := Cls.pool_itemL (R := intsP) (x := memL G h) (y := (qb, cb)) h2 (fun k hk => hk.1) (rowOwnL (h2.item (.head _)))
          exact h3.perm (List.Perm.swap _ _ _)
      · rw [List.concat_eq_append] at hLS hWlen ⊢
        obtain ⟨x, rfl, hxl, _⟩ := hLS.win v (by simp)
        have hwl : (Wr ++ [(x : Int)]).length = Wr.length + 1 := by simp
        have hrv : (ints (Wr ++ [(x : Int)]))[0 + (Wr.length : Int).toNat * 1]? = some (.int .i64 (x : Int)) := by
          rw [show 0 + (Wr.length : Int).toNat * 1 = Wr.length by omega]
          exact ints_get (by simp)
        have hI1 : ((Wr.length + 1 : Nat) : Int) - 1 = (Wr.length : Int) := by omega
        rw [hwl] at hWlen ⊢
        refine W.cond rfl (fun _ => ?_) (fun h3 => by simp at h3)
        refine W.fact (fun w2 hw2 => row_cap (hw2.item (.tail _ (.head _)))) (fun hcw => ?_)
        refine W.fact (fun w2 hw2 => row_some (hw2.item (.tail _ (.head _))) (by omega)) ?_
        rintro ⟨gw, hgw⟩
        subst hgw
        apply W.sk
        apply W.block
        apply W.sr
        apply omv; rfl; rfl
        apply omv; rfl; rfl
        apply oop; rfl; apply Pev.len_slice; rfl; exact yes; rfl
        apply obn; rfl; rfl; rfl; apply Bin.sub_in; omega
        apply oop; rfl; apply Pev.idxB; rfl; exact yes; rfl; exact yes; rfl; intro hcond; omega; rfl
        rw [hI1]
        apply oop; rfl; apply Pev.load_row; rfl; exact yes; exact .tail _ (.head _); rfl; assumption
        apply oas; rfl; rfl
        apply OL.nsr
        apply omv; rfl; rfl
        apply omv; rfl; rfl
        apply oop; rfl; apply Pev.len_slice; rfl; exact yes; rfl
        apply obn; rfl; rfl; rfl; apply Bin.sub_in; omega
        apply oop; rfl; apply Pev.slice_hi; rfl; exact yes; rfl; exact yes; rfl; (first | exact (Int.toNat_of_nonneg (by omega)).symm | omega); intro hcond; omega
        apply oas; rfl; rfl
        apply OL.nsr
        apply omv; rfl; rfl
        apply omv; rfl; rfl
        rw [hI1]
        rw [Int.toNat_natCast]
        refine OL.cls (C' := Cls [row wP.heap.size Ob qb Bs.length cb 3 1 (ints Bs), row wP.heap.size Ow (some ⟨gw, 0, none⟩) Wr.length cw 3 1 (ints Wr), row wP.heap.size O0 q0 P.length c0 83 3 (lpC (fun _ => -1) P), pool intsP wP.heap.size Op L] [wP, wR, wE, w0, w]) (fun w2 hw2 => hw2.rowPop Wr.length (ints Wr) (.s .z) (by omega) (by rw [ints_append, Nat.mul_one, List.take_left' (by rw [ints_length])])) ?_
        skip
        refine OL.callE (α := Int) (fun i => .tuple #[.int .i64 i, .bool (decide ((x : Int) ∈ rl G))]) (fun _ => True) (fun _ => Cls [row wP.heap.size Ob qb Bs.length cb 3 1 (ints Bs), row wP.heap.size Ow (some ⟨gw, 0, none⟩) Wr.length cw 3 1 (ints Wr), row wP.heap.size O0 q0 P.length c0 83 3 (lpC (fun _ => -1) P), pool intsP wP.heap.size Op L] [wP, wR, wE, w0, w]) rfl rfl (by exact Args.au) (fun w2 hw2 => (BSearch_calls qr cr (rl G) (x : Int) w2 hrs (by omega) (hIR.at hw2 (by exact mau) (fun k hk => NotOwned.row (by omega) (NotOwned.row (by omega) (NotOwned.row (by omega) (NotOwned.pool (by omega) NotOwned.nil)))))).mono fun e w3 ⟨⟨i, h5⟩, h6⟩ => ⟨i, h5, trivial, hw2.ext h6⟩) ?_
        intro ix _
        apply omv; rfl; rfl
        apply oex; rfl; rfl; rfl
        apply oex; rfl; rfl; rfl
        apply oas; rfl; rfl
        apply oas; rfl; rfl
        apply OL.nsr
        apply omv; rfl; rfl
        apply omv; rfl; rfl
        apply oy; rfl; rfl; rfl; apply Pev.move; rfl; exact yes
        apply oy; rfl; rfl; rfl; apply Pev.move; rfl; exact yes
        (((first | (with_reducible apply OL.op) | (with_reducible apply QL.op)); (exact Guard.au); rfl; rfl); (exact Pev.call (v := .bool (decide ((x : Int) ∈ Bs))) rfl (by exact Args.au) (fun _ w2 hw2 => (IContains_calls qb cb Bs (x : Int) w2 (by omega) (rowIntsL hw2 (.head _))).mono (fun e w3 h => ⟨h.1, hw2.ext h.2⟩))))
        apply oy; rfl; rfl; rfl; apply Pev.not; rfl; exact fun h => h
        apply oop; rfl; apply Pev.pick_and; rfl; exact yes; rfl; exact fun h => h
        apply OL.nx
        refine W.cond rfl (fun h3 => ?_) (fun h3 => ?_)
        · have h4 : (x : Int) ∈ rl G ∧ ¬ (x : Int) ∈ Bs := by simpa using h3
          obtain ⟨x', hx', hxr⟩ := (rl_mem hGE hG0).1 h4.1
          obtain rfl : x = x' := by omega
          obtain ⟨qp, cp, hcp, hIp⟩ := hO x hxl
          have hcp : wP.cell? ⟨bO, 0 + (x : Int).toNat * 1, none⟩ = some (.slice qp (predsF G 0 (x : Int)).length cp) := by rw [show 0 + (x : Int).toNat * 1 = x by omega]; exact hcp
          have hpk := hPK (x : Int)
          have hLS2 := hLS.take hxr h4.2
          have hB2 := hLS2.len
          rw [List.length_append, List.length_singleton] at hB2
          generalize predsF G 0 (x : Int) = Pp at *
          apply W.sr
          apply omv; rfl; rfl
          apply omv; rfl; rfl
          apply OL.buildSlice; rfl; rfl; rfl; exact Elems.au; rfl; rfl; (intro bk hbk; simp only [AllLe, and_true] at hbk)
          apply OL.append; rfl; rfl; rfl; rfl; exact Hole.au; exact .head _; exact Take.au; rfl; rfl; exact ⟨_, .head _, Nat.le_refl _⟩; omega; intro O1 g1 cap1
          apply oas; rfl; rfl
          apply OL.nx
          apply W.reg
          apply omv; rfl; rfl
          apply omv; rfl; rfl
          apply omv; rfl; rfl
          apply oop; rfl; apply Pev.idxB; rfl; exact yes; rfl; exact yes; rfl; intro hcond; omega; rfl
          apply oop; rfl; apply Pev.load_kept; rfl; exact yes; exact .head _; rfl; intro hcond; assumption; intro hcond; assumption; intro hcond; exact NotOwned.au
          (apply OL.appendK (news := ints Pp)); rfl; rfl; rfl; rfl; (exact Hole.au); (exact fun w2 hw2 => (hIp.at hw2 (by exact mau) (fun k hk => NotOwned.blk (by omega) (NotOwned.row (by omega) (NotOwned.row (by omega) (NotOwned.row (by omega) (NotOwned.pool (by omega) NotOwned.nil)))))).slAt); (rw [ints_length, Nat.mul_one]); (exact ints_oneL _); (exact ⟨wP, by exact mau, Nat.le_refl _⟩); (omega); (intro O2 q2 c2)
          apply oas; rfl; rfl
          apply OL.nil
          with_reducible apply At.in_normal
          obtain ⟨dd, hdd⟩ : ∃ dd, G.length - Bs.length = dd + 1 := ⟨G.length - Bs.length - 1, by omega⟩
          have hm1 : (G.length - Bs.length) * (K + 1) = dd * (K + 1) + (K + 1) := by rw [hdd, Nat.succ_mul]
          have hm2 : G.length - (Bs.length + 1) = dd := by omega
          refine At.again ((Bs ++ [(x : Int)], ⟨O1, some ⟨g1, 0, none⟩, cap1⟩), Wr ++ Pp, ⟨O2, q2, c2⟩) ⟨hLS2, ?_⟩ ?_ (by simp only [List.length_append, List.length_cons, List.length_nil]; exact Sub.au) (fun w' hw' => ?_)
          · simp only [List.length_append, List.length_cons, List.length_nil]
            rw [show 0 + 1 = 1 from rfl, Nat.succ_mul]
            omega
          · simp only [List.length_append, List.length_cons, List.length_nil]
            rw [show 0 + 1 = 1 from rfl, hm1, hm2]
            omega
          · simp only [ints_append, List.length_append, List.length_cons, List.length_nil]
            exact hw'.thin (.any (fun k hk => by rw [show k = bk from hk]; exact hA bk hbk.1) (.keep (.keep (.keep (.keep Thin.nil)))))
        · have h4 : ¬ Rc G (-1) x ∨ (x : Int) ∈ Bs := by
            by_cases h5 : (x : Int) ∈ Bs
            · exact .inr h5
            · left
              intro h6
              have := (rl_mem hGE hG0).2 ⟨x, rfl, h6⟩
              simp [h5, this] at h3
          apply W.skip
          with_reducible apply At.in_normal
          exact At.again ((Bs, ⟨Ob, qb, cb⟩), Wr, ⟨Ow, some ⟨gw, 0, none⟩, cw⟩) ⟨hLS.skip h4, by simp only; omega⟩ (by simp only; omega) (by exact Sub.au) (fun w' hw' => hw')
  · obtain rfl : h = G.length := by omega
    have hPm : ∀ p ∈ P, p.2.1.length ≤ 1000000 := fun p hp => by
      have h1 : (p.1, p.2.1) ∈ lpL P := List.mem_map_of_mem (f := fun p : Lp => (p.1, p.2.1)) hp
      rw [hP] at h1
      obtain ⟨h, _, h2⟩ := List.mem_map.1 h1
      have h3 : memL G h = p.2.1 := congrArg Prod.snd h2
      rw [← h3]
      have := memL_len G h
      omega
    refine W.xt ?_
    with_reducible apply At.next
    apply W.sr
    apply omv; rfl; rfl
    refine OL.callE (α := Unit) (fun _ => .tuple #[]) (fun _ => True) (fun _ => Cls [row wP.heap.size O0 q0 P.length c0 83 3 (lpC (fun i => parF (lpL P) i P.length) P), pool intsP wP.heap.size Op L] [wP, wR, wE, w0, w]) rfl rfl (by exact Args.au) (fun w2 hw2 => (nest_calls P L hPL (by omega) hPm hw2).mono fun e w3 ⟨h1, h2⟩ => ⟨(), h1, trivial, h2⟩) ?_
    rintro _ _
    apply OL.nsr
    apply omv; rfl; rfl
    apply oas; rfl; rfl
    apply oas; rfl; rfl
    apply OL.nx
    apply W.ret
    ((with_reducible apply At.fin2); rfl; rfl; rfl; intro w' hw')
    refine ⟨hw'.toExt (by exact mau) (fun k hk => NotOwned.row (by omega) (NotOwned.pool (by omega) NotOwned.nil)), .inr ⟨by trivial, P, q0, c0, rfl, hP, SlAt.of_row (hw'.item (.head _)), fun p hp => ?_⟩⟩
    exact IntsO.mono (fun k hk => hw'.lt _ (.tail _ (.head _)) k hk) (hw'.item (i := pool intsP wP.heap.size Op L) (.tail _ (.head _)) _ (hPL p hp))
end Go.Proofs.Ytehelljmaiophaa.ss

/- The walk of loops' Depths. Conditions: none. -/
namespace Go.Ss
set_option linter.unusedVariables false
set_option linter.unusedSimpArgs false
open Go.Eng Go.RowKit
set_option linter.unusedVariables false
set_option linter.unusedSimpArgs false
theorem ints_setE (l : List Int) (o : Nat) (v : Int) : (ints l).set o (.int .i64 v) = ints (l.set o v) := by simp [ints, List.map_set]
theorem tabI_zeroE (n : Nat) : ints (tabI n fun _ => 0) = List.replicate n (Value.int .i64 0) := tabI_zero n
theorem cntL_take {L : List (Nat × List Int)} {i : Nat} {p : Nat × List Int} (hp : L[i]? = some p) (x : Nat) : cntL (L.take (i + 1)) x = cntL (L.take i) x + if (x : Int) ∈ p.2 then 1 else 0 := by
  unfold cntL
  rw [List.take_add_one, hp, Option.toList_some, List.filter_append, List.length_append, List.filter_cons]
  by_cases h : (x : Int) ∈ p.2
  · simp [h]
  · simp [h]
theorem cntL_le (L : List (Nat × List Int)) (x : Nat) : 0 ≤ cntL L x ∧ cntL L x ≤ L.length := by
  unfold cntL
  have := List.length_filter_le (fun p : Nat × List Int => decide ((x : Int) ∈ p.2)) L
  omega
theorem memL_nodup (G : List (List Int)) (h : Nat) : (memL G h).Nodup := (memL_sorted G h).imp fun h => by omega
theorem take_not {l : List Int} (hn : l.Nodup) {j : Nat} {v : Int} (hj : l[j]? = some v) : v ∉ l.take j := fun hm => by
  obtain ⟨i, hi⟩ := List.getElem?_of_mem hm
  have hil := (List.getElem?_eq_some_iff.1 hi).1
  rw [List.length_take] at hil
  rw [List.getElem?_take_of_lt (by omega)] at hi
  obtain ⟨h1, h2⟩ := List.getElem?_eq_some_iff.1 hi
  obtain ⟨h3, h4⟩ := List.getElem?_eq_some_iff.1 hj
  have := (List.getElem_inj hn (h₀ := h1) (h₁ := h3)).1 (by rw [h2, h4])
  omega
/-- the loops as they stand -/
theorem lps_at {G : List (List Int)} {P : List Lp} (hP : lpL P = lpsL G) {i : Nat} (hi : i < P.length) : ∃ h, (P.getD i Lp0).1 = h ∧ (P.getD i Lp0).2.1 = memL G h ∧ h < G.length ∧ IsH G h ∧ (lpL P)[i]? = some (h, memL G h) := by
  have h1 : (lpL P)[i]? = some ((P.getD i Lp0).1, (P.getD i Lp0).2.1) := by
    unfold lpL
    rw [List.getElem?_map, List.getD_eq_getElem?_getD, List.getElem?_eq_getElem hi]
    rfl
  have h2 := h1
  rw [hP] at h2
  unfold lpsL at h2
  rw [List.getElem?_map] at h2
  cases h3 : (hdrL G G.length)[i]? with
  | none => rw [h3] at h2; cases h2
  | some h =>
    rw [h3] at h2
    have h4 := Option.some.inj h2
    have h5 := hdrL_mem (List.mem_of_getElem? h3)
    have e1 : h = (P.getD i Lp0).1 := congrArg Prod.fst h4
    have e2 : memL G h = (P.getD i Lp0).2.1 := congrArg Prod.snd h4
    exact ⟨h, e1.symm, e2.symm, h5.1, h5.2, by rw [h1, ← e2, ← e1]⟩
theorem lps_len {G : List (List Int)} {P : List Lp} (hP : lpL P = lpsL G) : P.length ≤ G.length := by
  have h1 := congrArg List.length hP
  unfold lpL lpsL at h1
  rw [List.length_map, List.length_map] at h1
  rw [h1]
  exact hdrL_len G _
end Go.Ss
namespace Go.Proofs.Ytehelljmaiophaa.ss
set_option linter.unusedVariables false
set_option linter.unusedSimpArgs false
set_option maxRecDepth 100000
open Go.Eng Go.RowKit Go.Ss
set_option linter.unusedVariables false
set_option linter.unusedSimpArgs false
theorem Depths_calls (fn : Go.Ss.Fn) (y : FnY) (w : World) (hfn : FnOk w (low w) fn y) :
    Calls Try.prog 52 [.agg (fnC fn y).toArray].toArray w fun e w' => Ext w w' ∧ ((funcE fn ≠ 0 ∧ e = .returned (.tuple #[.slice none 0 0, .int .i64 (funcE fn)])) ∨ (funcE fn = 0 ∧ ∃ b : Nat, e = .returned (.tuple #[.slice (some ⟨b, 0, none⟩) fn.blocks.length fn.blocks.length, .int .i64 0]) ∧ IntsO w' (low w') (tabI fn.blocks.length (cntL (lpsL (graphB fn.blocks)))) (some ⟨b, 0, none⟩))) := by
  have hfn0 := hfn
  obtain ⟨es, hes, he⟩ := hfn.b
  obtain ⟨nm, bs⟩ := fn
  obtain ⟨q, cap⟩ := y
  have hbl := hfn.bl
  simp only at hes he hbl
  have hbl2 : bs.length = es.length := by rw [← hes, List.length_map]
  have hF : ∀ (H : List Eng.Item) (S : List World) (w2 : World), Cls H S w2 → w ∈ S → (∀ k, k < w.heap.size → NotOwned H k) → FnOk w2 (low w2) ⟨nm, bs⟩ ⟨q, cap⟩ := fun H S w2 hw2 hs hno => fnR.mono (hw2.up hs) (fnR.stab (hw2.same hs hno) hfn0)
  obtain ⟨er, her⟩ : ∃ er, funcE ⟨nm, bs⟩ = er := ⟨_, rfl⟩
  obtain ⟨G, hG⟩ : ∃ G, graphB bs = G := ⟨_, rfl⟩
  have hGl : G.length = es.length := by rw [← hG]; simp [graphB, hbl2]
  have hFi := fun w2 (H : List Eng.Item) (S : List World) hw2 hs hno => Find_calls ⟨nm, bs⟩ ⟨q, cap⟩ w2 (hF H S w2 hw2 hs hno)
  simp only [fnC, her, hG, hbl2, ← hGl, ← rl.eq_1] at hFi ⊢
  refine enter Try.func52 rfl Try.ntmps52 rfl (Cls.start w) ?_
  (simp only [argEnv, Nat.zero_add, Nat.reduceAdd])
  apply W.sr
  apply OL.box; rfl; rfl; exact CellsL.agg; (intro bk hbk; simp only [AllLe, and_true] at hbk)
  apply oas; rfl; rfl
  apply oas; rfl; rfl
  apply OL.nsr
  apply oop; rfl; apply Pev.load_blkA; rfl; exact yes; exact .head _; rfl; exact Take.au
  revert bk
  intro b1 hb1x
  have hb1 : w.heap.size ≤ b1 := by first | exact hb1x | exact hb1x.1
  refine OL.frzD (C' := fun w0 => Cls [] [w0, w]) (fun w0 hc0 => (hc0.thin (.any (fun k hk => by rw [show k = b1 from hk]; exact ⟨hb1, trivial⟩) Thin.nil)).note) (fun w0 hc0 => ?_)
  have hb10 : b1 < w0.heap.size := blk_lt (hc0.item (.head _))
  have hw0 : w.heap.size ≤ w0.heap.size := (hc0.kp w (.head _)).size
  have hcF : CellsAt w0 ⟨b1, 0, none⟩ [.int .i64 nm, .slice q G.length cap] := fun j v hj => by
    rw [add_mid, blk_cell (hc0.item (.head _)), Nat.zero_add]
    exact hj
  have hcF1 : w0.cell? ⟨b1, 0 + 1, none⟩ = some (.slice q G.length cap) := hcF 1 _ rfl
  by_cases hne : er ≠ 0
  · (((first | (with_reducible apply OL.op) | (with_reducible apply QL.op)); (exact Guard.au); rfl; rfl); (exact Pev.call (v := .tuple #[.slice none 0 0, .int .i64 er]) rfl (by exact Args.au) (fun _ w2 hw2 => (hFi w2 _ _ hw2 (by exact mau) (fun k hk => NotOwned.nil)).mono (fun e w3 h => ⟨by rcases h.2 with h2 | h2; exact h2.2; exact absurd h2.1 hne, hw2.ext h.1⟩))))
    apply omv; rfl; rfl
    apply oex; rfl; rfl; rfl
    apply oex; rfl; rfl; rfl
    apply oas; rfl; rfl
    apply oas; rfl; rfl
    apply OL.nx
    apply W.seq
    apply W.sr
    apply omv; rfl; rfl
    apply obn; rfl; rfl; rfl; apply Bin.neq
    apply OL.nx
    refine W.cond rfl (fun _ => ?_) (fun h => by simp at h; exact absurd h hne)
    apply W.sr
    apply omv; rfl; rfl
    apply oas; rfl; rfl
    apply oas; rfl; rfl
    apply OL.nx
    refine W.rt ?_
    ((with_reducible apply At.fin2); rfl; rfl; rfl; intro w' hw')
    exact ⟨hw'.fr (by exact mau) (fun k hk => NotOwned.nil), .inl ⟨hne, rfl⟩⟩
  obtain rfl : er = 0 := Classical.not_not.1 hne
  obtain ⟨h0, h128, hs0⟩ := func_zero her
  simp only at h0 h128 hs0
  have hGE : ∀ l ∈ G, ∀ x ∈ l, 0 ≤ x ∧ x < (G.length : Int) := fun l hl x hx => by
    rw [← hG] at hl
    obtain ⟨b, hb, rfl⟩ := List.mem_map.1 hl
    obtain ⟨e, he, rfl⟩ := List.mem_map.1 hx
    have := shape_edges hs0 b hb e he
    omega
  have hG0 : 0 < G.length := by omega
  have hGn : G.length ≤ 128 := by omega
  have hord := ordOk hGE hG0
  refine OL.callE (α := ((Option Addr × Nat) × List Lp) × World) (fun z => .tuple #[.slice z.1.1.1 z.1.2.length z.1.1.2, .int .i64 0]) (fun z => w0.heap.size ≤ z.2.heap.size ∧ lpL z.1.2 = lpsL G ∧ SlAt z.2 z.2.heap.size z.1.1.1 (lpC (fun i => parF (lpL z.1.2) i z.1.2.length) z.1.2) ∧ ∀ p ∈ z.1.2, IntsO z.2 (low z.2) p.2.1 p.2.2.1) (fun z => Cls [] [z.2, w0, w]) rfl rfl (by exact Args.au) (fun w2 hw2 => (hFi w2 _ _ hw2 (by exact mau) (fun k hk => NotOwned.nil)).mono fun e w3 ⟨h2, h3⟩ => ?_) ?_
  · rcases h3 with ⟨h3, _⟩ | ⟨_, P, q', c', h4, h5⟩
    · exact absurd rfl h3
    · exact ⟨(((q', c'), P), w3), h4, ⟨((hw2.ext h2).kp w0 (by exact mau)).size, h5⟩, (hw2.ext h2).note⟩
  rintro ⟨⟨⟨qp, cp⟩, P⟩, wD⟩ ⟨hw0D, hP, hSl, hM⟩
  simp only at hw0D hP hSl hM ⊢
  have hPn := lps_len hP
  apply omv; rfl; rfl
  apply oex; rfl; rfl; rfl
  apply oex; rfl; rfl; rfl
  apply oas; rfl; rfl
  apply oas; rfl; rfl
  apply OL.nx
  apply W.seq
  apply W.sr
  apply omv; rfl; rfl
  apply obn; rfl; rfl; rfl; apply Bin.neq
  apply OL.nx
  refine W.cond rfl (fun h => by simp at h) (fun _ => ?_)
  apply W.sk
  apply W.sr
  apply ofa; rfl; rfl; rfl
  apply oop; rfl; apply Pev.load_kept; rfl; exact yes; exact .tail _ (.head _); rfl; intro hcond; assumption; intro hcond; assumption; intro hcond; exact NotOwned.au
  apply oop; rfl; apply Pev.len_slice; rfl; exact yes; rfl
  apply OL.makeSlice; rfl; rfl; rfl; rfl; rfl; rfl; rfl; omega; (intro bk hbk; simp only [AllLe, and_true] at hbk)
  apply oas; rfl; rfl
  apply OL.nx
  apply W.seq
  apply W.sr
  apply omv; rfl; rfl
  apply oop; rfl; apply Pev.len_slice; rfl; exact yes; rfl
  apply omv; rfl; rfl
  apply OL.nx
  apply W.block
  revert bk
  intro bT hbTx
  have hbT : wD.heap.size ≤ bT := by first | exact hbTx | exact hbTx.1
  skip
  have hA : ∀ b, wD.heap.size ≤ b → AllLe [wD, w0, w] b := fun b hb => ⟨hb, Nat.le_trans hw0D hb, Nat.le_trans (Nat.le_trans hw0 hw0D) hb, trivial⟩
  rw [← tabI_zeroE]
  refine W.loop (G := Nat) (fun i => i ≤ P.length) (fun i => P.length - i)
    (fun i => [(6, true, .slice (some ⟨bT, 0, none⟩) G.length G.length), (23, true, .slice qp P.length cp), (24, true, .int .i64 (P.length : Int)), (25, true, .int .i64 (i : Int))])
    (fun i => Cls [blk bT 3 (ints (tabI G.length (cntL ((lpL P).take i))))] [wD, w0, w]) 0 (by omega) (by exact Sub.au) (fun w' hw' => hw') ?_
  intro i hi
  apply W.sr
  apply obn; rfl; rfl; rfl; apply Bin.lss
  apply OL.nx
  apply W.seq
  (refine W.cnd (fun hlt => ?_) (fun hlt => ?_)) <;> (try (exfalso; first | omega | exact hlt trivial | contradiction))
  · have hil : i < P.length := by omega
    obtain ⟨h, hh1, hh2, hhn, _, hLi⟩ := lps_at hP hil
    obtain ⟨a, rfl, hab, hca⟩ := hSl (by rw [lpC_len]; omega)
    have hpm : P.getD i Lp0 ∈ P := by rw [List.getD_eq_getElem?_getD, List.getElem?_eq_getElem hil]; exact List.getElem_mem hil
    have hIm := hM _ hpm
    have hca3 : CellsAt wD (a.add (i * 3)) [.int .i64 (h : Int), .slice (P.getD i Lp0).2.2.1 (memL G h).length (P.getD i Lp0).2.2.2, .int .i64 (parF (lpL P) i P.length)] := fun j v hj => by
      rw [add_add]
      refine hca (i * 3 + j) v (lpC_get _ P hil ?_)
      rw [← hj]
      unfold lpE
      rw [hh1, hh2]
    rw [hh2] at hIm
    have hml := memL_len G h
    have hnd := memL_nodup G h
    have hmm : ∀ v ∈ memL G h, ∃ x : Nat, v = (x : Int) ∧ x < G.length := fun v hv => by
      obtain ⟨x, h1, h2, _⟩ := memL_mem.1 hv
      exact ⟨x, h1, h2⟩
    have htk := cntL_take hLi
    simp only at htk
    generalize memL G h = m at *
    have hcb : ∀ x, 0 ≤ cntL ((lpL P).take i) x ∧ cntL ((lpL P).take i) x ≤ 128 := fun x => by
      have := cntL_le ((lpL P).take i) x
      have h2 : ((lpL P).take i).length ≤ i := by rw [List.length_take]; omega
      omega
    apply W.sk
    apply W.sb
    apply W.sr
    apply oop; rfl; apply Pev.idx; rfl; exact yes; rfl; exact yes; rfl; rfl; intro hcond; omega
    apply oop; rfl; apply Pev.load_keptA; rfl; exact yes; exact .head _; rfl; intro hcond; assumption; rfl; intro hcond; (rw [add_block]; assumption); intro hcond; exact NotOwned.au
    apply OL.alloc; rfl; rfl; exact CellsL.agg; (intro bk hbk; simp only [AllLe, and_true] at hbk)
    apply OL.storeB; rfl; rfl; exact CellsL.agg; rfl; rfl; rfl; exact Swap.au; exact Put.au
    apply OL.nsr
    apply ofa; rfl; rfl; rfl
    apply old; rfl; rfl; exact .head _; rfl; rfl
    apply oop; rfl; apply Pev.len_slice; rfl; exact yes; rfl
    apply omv; rfl; rfl
    apply OL.nx
    apply W.block
    revert bk
    intro b8 hb8x
    have hb8 : wD.heap.size ≤ b8 := by first | exact hb8x | exact hb8x.1
    skip
    refine W.loop (G := Nat) (fun j => j ≤ m.length) (fun j => m.length - j)
      (fun j => [(6, true, .slice (some ⟨bT, 0, none⟩) G.length G.length), (23, true, .slice (some a) P.length cp), (24, true, .int .i64 (P.length : Int)), (25, true, .int .i64 (i : Int)), (30, true, .slice (P.getD i Lp0).2.2.1 m.length (P.getD i Lp0).2.2.2), (31, true, .int .i64 (m.length : Int)), (32, true, .int .i64 (j : Int))])
      (fun j => Cls [blk bT 3 (ints (tabI G.length fun x => cntL ((lpL P).take i) x + if (x : Int) ∈ m.take j then 1 else 0))] [wD, w0, w]) 0 (by omega) (by exact Sub.au) (fun w' hw' => by simp only [List.take_zero, List.not_mem_nil, if_false, Int.add_zero]; exact hw'.thin (.any (fun k hk => by rw [show k = b8 from hk]; exact hA b8 hb8) (.keep Thin.nil))) ?_
    intro j hj
    apply W.sr
    apply obn; rfl; rfl; rfl; apply Bin.lss
    apply OL.nx
    apply W.seq
    (refine W.cnd (fun hlt2 => ?_) (fun hlt2 => ?_)) <;> (try (exfalso; first | omega | exact hlt2 trivial | contradiction))
    · have hjl : j < m.length := by omega
      obtain ⟨am, v, hqm, habm, hv, hcm⟩ := hIm.get hjl
      have habm : am.block < wD.heap.size := habm
      obtain ⟨x, rfl, hxl⟩ := hmm v (List.mem_of_getElem? hv)
      have hnx := take_not hnd hv
      have hcx := hcb x
      have hrv : (ints (tabI G.length fun x => cntL ((lpL P).take i) x + if (x : Int) ∈ m.take j then 1 else 0))[0 + (x : Int).toNat * 1]? = some (.int .i64 (cntL ((lpL P).take i) x)) := by
        rw [show 0 + (x : Int).toNat * 1 = x by omega]
        refine ints_get ?_
        rw [tabI_get hxl, if_neg hnx, Int.add_zero]
      rw [hqm]
      apply W.sk
      apply W.sb
      apply W.sr
      apply oop; rfl; apply Pev.idx; rfl; exact yes; rfl; exact yes; rfl; rfl; intro hcond; omega
      apply oop; rfl; apply Pev.load_kept; rfl; exact yes; exact .head _; rfl; intro hcond; assumption; intro hcond; (rw [add_block]; assumption); intro hcond; exact NotOwned.au
      apply oas; rfl; rfl
      apply OL.nx
      apply W.reg
      apply omv; rfl; rfl
      apply omv; rfl; rfl
      apply oop; rfl; apply Pev.idxB; rfl; exact yes; rfl; exact yes; rfl; intro hcond; omega; rfl
      apply oop; rfl; apply Pev.load_blk; rfl; exact yes; exact .head _; rfl; assumption
      apply obn; rfl; rfl; rfl; apply Bin.add_in; omega
      apply oop; rfl; apply Pev.idxB; rfl; exact yes; rfl; exact yes; rfl; intro hcond; omega; rfl
      (apply OL.storeI); rfl; rfl; rfl; rfl; rfl; (exact Swap.au); (rw [ints_length, tabI_length]; omega)
      apply OL.nil
      with_reducible apply At.in_normal
      with_reducible apply At.next
      apply W.reg
      apply obn; rfl; rfl; rfl; apply Bin.add_in; omega
      apply omv; rfl; rfl
      apply OL.nil
      refine At.again (j + 1) (by omega) (by omega) (by exact Sub.au) (fun w' hw' => ?_)
      rw [show (0 + (x : Int).toNat * 1) = x by omega, ints_setE, tabI_set] at hw'
      rw [show (tabI G.length fun y => cntL ((lpL P).take i) y + if (y : Int) ∈ m.take (j + 1) then 1 else 0) = tabI G.length fun y => if y = x then cntL ((lpL P).take i) x + 1 else cntL ((lpL P).take i) y + if (y : Int) ∈ m.take j then 1 else 0 from tabI_congr fun y _ => by
        rw [List.take_add_one, hv, Option.toList_some]
        by_cases e : y = x
        · subst e
          rw [if_pos rfl, if_pos (by simp)]
        · rw [if_neg e]
          have h7 : ((y : Int) ∈ m.take j ++ [(x : Int)]) ↔ (y : Int) ∈ m.take j := by
            rw [List.mem_append, List.mem_singleton]
            exact ⟨fun h8 => h8.resolve_right (by omega), .inl⟩
          simp only [h7]]
      exact hw'
    · obtain rfl : j = m.length := by omega
      refine W.xt ?_
      with_reducible apply At.in_normal
      with_reducible apply At.next
      apply W.reg
      apply obn; rfl; rfl; rfl; apply Bin.add_in; omega
      apply omv; rfl; rfl
      apply OL.nil
      refine At.again (i + 1) (by omega) (by omega) (by exact Sub.au) (fun w' hw' => ?_)
      rw [List.take_length] at hw'
      rw [show tabI G.length (cntL ((lpL P).take (i + 1))) = tabI G.length fun x => cntL ((lpL P).take i) x + if (x : Int) ∈ m then 1 else 0 from tabI_congr fun x _ => htk x]
      exact hw'
  · obtain rfl : i = P.length := by omega
    refine W.xt ?_
    with_reducible apply At.next
    apply W.sr
    apply omv; rfl; rfl
    apply oas; rfl; rfl
    apply oas; rfl; rfl
    apply OL.nx
    apply W.ret
    ((with_reducible apply At.fin2); rfl; rfl; rfl; intro w' hw')
    have hT := hw'.item (i := blk bT 3 (ints (tabI G.length (cntL ((lpL P).take P.length))))) (.head _)
    rw [List.take_of_length_le (by unfold lpL; rw [List.length_map]; omega), hP] at hT
    exact ⟨hw'.toExt (by exact mau) (fun k hk => NotOwned.blk (by omega) NotOwned.nil), .inr ⟨by trivial, bT, rfl, blkInts hT⟩⟩
end Go.Proofs.Ytehelljmaiophaa.ss

/- The walks of the reference's Tree and InFrontier. Conditions: none. -/
namespace Go.Ss
set_option linter.unusedVariables false
set_option linter.unusedSimpArgs false
open Go.Eng Go.RowKit
set_option linter.unusedVariables false
set_option linter.unusedSimpArgs false
open Classical in
noncomputable def rcB (G : List (List Int)) (v : Int) (k : Nat) : Bool := decide (Rc G v k)
theorem rcB_iff {G : List (List Int)} {v : Int} {k : Nat} : rcB G v k = true ↔ Rc G v k := by simp [rcB]
theorem rcB_not {G : List (List Int)} {v : Int} {k : Nat} : rcB G v k = false ↔ ¬ Rc G v k := by simp [rcB]
def BestOk (o : Nat → Option Nat) (p0 n i : Nat) : Option Nat → Prop
  | none => ∀ a, a < i → ¬ An o a p0
  | some b => (An o b p0 ∧ b < n) ∧ ∀ a, a < i → An o a p0 → An o a b
theorem BestOk.skip {o : Nat → Option Nat} {p0 n i : Nat} {z : Option Nat} (h : BestOk o p0 n i z) (hn : ¬ An o i p0) : BestOk o p0 n (i + 1) z := by
  cases z with
  | none =>
    intro a ha h1
    by_cases e : a = i
    · subst e; exact hn h1
    · exact h a (by omega) h1
  | some b =>
    refine ⟨h.1, fun a ha h1 => ?_⟩
    by_cases e : a = i
    · subst e; exact absurd h1 hn
    · exact h.2 a (by omega) h1
theorem BestOk.first {o : Nat → Option Nat} {p0 n i : Nat} (h : BestOk o p0 n i none) (hi : An o i p0) (hn : i < n) : BestOk o p0 n (i + 1) (some i) := by
  refine ⟨⟨hi, hn⟩, fun a ha h1 => ?_⟩
  by_cases e : a = i
  · subst e; exact .refl
  · exact absurd h1 (h a (by omega))
theorem BestOk.up {o : Nat → Option Nat} {p0 n i b : Nat} (h : BestOk o p0 n i (some b)) (hi : An o i p0) (hn : i < n) (hb : An o b i) : BestOk o p0 n (i + 1) (some i) := by
  refine ⟨⟨hi, hn⟩, fun a ha h1 => ?_⟩
  by_cases e : a = i
  · subst e; exact .refl
  · exact (h.2 a (by omega) h1).trans hb
theorem BestOk.keep {o : Nat → Option Nat} {p0 n i b : Nat} (h : BestOk o p0 n i (some b)) (hi : An o i p0) (hb : ¬ An o b i) : BestOk o p0 n (i + 1) (some b) := by
  refine ⟨h.1, fun a ha h1 => ?_⟩
  by_cases e : a = i
  · subst e
    exact (h1.comp h.1.1).resolve_right hb
  · exact h.2 a (by omega) h1
end Go.Ss
namespace Go.Proofs.Ytehelljmaiophaa.ss
set_option linter.unusedVariables false
set_option linter.unusedSimpArgs false
set_option maxRecDepth 100000
open Go.Eng Go.RowKit Go.Ss
set_option linter.unusedVariables false
set_option linter.unusedSimpArgs false
theorem Reach_ext (es : List (Bk × BkY)) (q : Option Addr) (cap : Nat) (nm v : Int) (w : World) (he : Arr bkR w (low w) es q) (hlen : es.length ≤ 140737488355328) :
    Calls Try.prog 39 [.agg #[.int .i64 nm, .slice q es.length cap], .int .i64 v].toArray w fun e w' => ∃ b : Nat, e = .returned (.slice (some ⟨b, 0, none⟩) es.length es.length) ∧ Ext w w' ∧ b < w'.heap.size ∧ ∀ k : Nat, k < es.length → w'.cell? ⟨b, 0 + (k : Int).toNat * 1, none⟩ = some (.bool (rcB (graphB (es.map Prod.fst)) v k)) :=
  (Reach_calls es q cap nm v w he hlen).mono fun e w' ⟨b, B, h1, h2, h3, h4, h5, h6⟩ => by
    refine ⟨b, h1, h4, blk_lt h6, fun k hk => ?_⟩
    rw [blk_cell h6, show 0 + (k : Int).toNat * 1 = k by omega]
    have hb : B[k]? = some B[k] := List.getElem?_eq_getElem (by omega)
    rw [bls_get hb]
    congr 2
    have h7 := h3 k
    rw [hb] at h7
    cases hbb : B[k] with
    | true => rw [hbb] at h7; exact (rcB_iff.2 (h7.1 rfl)).symm
    | false =>
      rw [hbb] at h7
      exact (rcB_not.2 fun h8 => by have := h7.2 h8; simp at this).symm
theorem RTree_calls (es : List (Bk × BkY)) (q : Option Addr) (cap : Nat) (nm : Int) (k : Nat) (o : Nat → Option Nat) (w : World) (he : Arr bkR w (low w) es q) (hlen : es.length ≤ 128) (hk : k < es.length)
    (hend : EndR (graphB (es.map Prod.fst)) (plN (graphB (es.map Prod.fst))) o) (hdm : ∀ a b, Rc (graphB (es.map Prod.fst)) (-1) b → (An o a b ↔ Dm (graphB (es.map Prod.fst)) a b)) (hz : plN (graphB (es.map Prod.fst)) 0 = 0) :
    Calls Try.prog 48 [.agg #[.int .i64 nm, .slice q es.length cap], .int .i64 (k : Int)].toArray w fun e w' => e = .returned (.int .i64 (ovI (o k))) ∧ Ext w w' := by
  obtain ⟨G, hG⟩ : ∃ G, graphB (es.map Prod.fst) = G := ⟨_, rfl⟩
  have hGl : G.length = es.length := by rw [← hG]; simp [graphB]
  have hRe := fun v w2 (H : List Eng.Item) (S : List World) (hw2 : Cls H S w2) (hs : w ∈ S) (hno : ∀ k, k < w.heap.size → NotOwned H k) => Reach_ext es q cap nm v w2 (he.at hw2 hs hno) (by omega)
  have hOv := fun a b w2 (H : List Eng.Item) (S : List World) (hw2 : Cls H S w2) (hs : w ∈ S) (hno : ∀ k, k < w.heap.size → NotOwned H k) => Over_calls es q cap nm a b w2 (he.at hw2 hs hno) (by omega)
  rw [hG] at hend hdm hz
  simp only [hG] at hRe hOv
  refine enter Try.func48 rfl Try.ntmps48 rfl (Cls.start w) ?_
  (simp only [argEnv, Nat.zero_add, Nat.reduceAdd])
  apply W.sr
  apply OL.box; rfl; rfl; exact CellsL.agg; (intro bk hbk; simp only [AllLe, and_true] at hbk)
  apply oas; rfl; rfl
  apply OL.nx
  apply W.seq
  apply W.sr
  apply omv; rfl; rfl
  apply obn; rfl; rfl; rfl; apply Bin.eql
  apply omv; rfl; rfl
  apply ono; rfl; rfl; rfl; apply Pev.load_blkA; rfl; exact yes; exact .head _; rfl; exact Take.au
  revert bk
  intro b1 hb1x
  have hb1 : w.heap.size ≤ b1 := by first | exact hb1x | exact hb1x.1
  refine OL.frzD (C' := fun w0 => Cls [] [w0, w]) (fun w0 hc0 => (hc0.thin (.any (fun k hk => by rw [show k = b1 from hk]; exact ⟨hb1, trivial⟩) Thin.nil)).note) (fun w0 hc0 => ?_)
  have hb10 : b1 < w0.heap.size := blk_lt (hc0.item (.head _))
  have hcF : CellsAt w0 ⟨b1, 0, none⟩ [.int .i64 nm, .slice q es.length cap] := fun j v hj => by
    rw [add_mid, blk_cell (hc0.item (.head _)), Nat.zero_add]
    exact hj
  have hcF1 : w0.cell? ⟨b1, 0 + 1, none⟩ = some (.slice q es.length cap) := hcF 1 _ rfl
  have ho0 : o 0 = none := by
    cases h : o 0 with
    | none => rfl
    | some p => have := (hend.w.wf _ _ h).2.2.1; omega
  have hon : ∀ j, ¬ Rc G (-1) j → o j = none := fun j hj => by
    cases h : o j with
    | none => rfl
    | some p => exact absurd (hend.w.wf _ _ h).1 hj
  by_cases hk0 : k = 0
  · (((first | (with_reducible apply OL.op) | (with_reducible apply QL.op)); (exact Guard.au); rfl; rfl); (exact Pev.void (v := .slice none 0 0) (by simp; omega)))
    apply ono; rfl; rfl; rfl; apply Pev.move; rfl; exact yes
    apply OL.gateOff; exact Guard.no rfl rfl; (simp; omega); rfl
    apply OL.gateOff; exact Guard.no rfl rfl; (simp; omega); rfl
    apply OL.gateOff; exact Guard.no rfl rfl; (simp; omega); rfl
    apply oop; rfl; apply Pev.pick_on; rfl; exact yes; (intro hcond; simp; omega); rfl; exact yes
    apply OL.nx
    refine W.cond rfl (fun _ => ?_) (fun h => by simp [hk0] at h)
    apply W.sr
    apply oas; rfl; rfl
    apply OL.nx
    refine W.rt ?_
    ((with_reducible apply At.fin1); rfl; rfl; intro w' hw')
    exact ⟨by rw [hk0, ho0]; rfl, by (exact hw'.fr)⟩
  have hkI : ¬ (k : Int) = 0 := by omega
  refine OL.callG (α := Nat × World) (fun z => .slice (some ⟨z.1, 0, none⟩) es.length es.length) (fun z => z.1 < z.2.heap.size ∧ ∀ j : Nat, j < es.length → z.2.cell? ⟨z.1, 0 + (j : Int).toNat * 1, none⟩ = some (.bool (rcB G (-1) j))) (fun z => Cls [] [z.2, w0, w]) Guard.au (by simp; omega) rfl rfl (by exact Args.au) (fun w2 hw2 => (hRe (-1) w2 _ _ hw2 (by exact mau) (fun k hk => NotOwned.nil)).mono fun e w3 ⟨bR, h1, h2, h3, h4⟩ => ⟨(bR, w3), h1, ⟨h3, h4⟩, (hw2.ext h2).note⟩) ?_
  rintro ⟨bR, wR⟩ ⟨hbR, hcR⟩
  simp only at hbR hcR ⊢
  have hcRk := hcR k hk
  apply ono; rfl; rfl; rfl; apply Pev.move; rfl; exact yes
  apply ono; rfl; rfl; rfl; apply Pev.idxB; rfl; exact yes; rfl; exact fun h => h; rfl; intro hcond; omega; rfl
  apply ono; rfl; rfl; rfl; apply Pev.load_kept; rfl; exact fun h => h; exact .head _; rfl; intro hcond; assumption; intro hcond; assumption; intro hcond; exact NotOwned.au
  apply ono; rfl; rfl; rfl; apply Pev.not; rfl; exact fun h => h
  apply oop; rfl; apply Pev.pick_or; rfl; exact yes; rfl; exact fun h => h
  apply OL.nx
  by_cases hr : ¬ Rc G (-1) k
  · refine W.cond rfl (fun _ => ?_) (fun h => by simp [rcB_not.2 hr, hkI] at h)
    apply W.sr
    apply oas; rfl; rfl
    apply OL.nx
    refine W.rt ?_
    ((with_reducible apply At.fin1); rfl; rfl; intro w' hw')
    exact ⟨by rw [hon k hr]; rfl, by (exact hw'.fr)⟩
  have hr : Rc G (-1) k := Classical.not_not.1 hr
  refine W.cond rfl (fun h => by simp [rcB_iff.2 hr, hk0] at h) (fun _ => ?_)
  obtain ⟨p0, hp0⟩ := Option.isSome_iff_exists.1 (hend.all k hr hk0)
  have hcand : ∀ a, a ≠ k → (Ovr G a k ↔ An o a p0) := fun a ha => by
    show Dm G a k ↔ _
    rw [← hdm a k hr]
    constructor
    · intro h
      cases h with
      | refl => exact absurd rfl ha
      | up h3 r =>
        rw [hp0] at h3
        obtain rfl := Option.some.inj h3
        exact r
    · exact fun h => .up hp0 h
  obtain ⟨_, hp0r, hp0l, _⟩ := hend.w.wf _ _ hp0
  have hpr : ∀ a, Rc G (-1) a → Pr G o a := fun a ha => ⟨ha, by
    by_cases e : a = 0
    · exact .inl e
    · exact .inr (hend.all a ha e)⟩
  have hp0n := hp0r.lt
  have hknot : ¬ An o k p0 := fun h => by have := h.le hend.w; omega
  apply W.sk
  apply W.sr
  apply oas; rfl; rfl
  apply OL.nx
  apply W.seq
  apply W.sr
  apply ofa; rfl; rfl; rfl
  apply oop; rfl; apply Pev.load_kept; rfl; exact yes; exact .tail _ (.head _); rfl; intro hcond; assumption; intro hcond; assumption; intro hcond; exact NotOwned.au
  apply oop; rfl; apply Pev.len_slice; rfl; exact yes; rfl
  apply omv; rfl; rfl
  apply OL.nx
  apply W.block
  refine W.loop (G := Nat × Option Nat) (fun z => z.1 ≤ es.length ∧ BestOk o p0 es.length z.1 z.2) (fun z => es.length - z.1)
    (fun z => [(1, true, .int .i64 (k : Int)), (2, true, .pointer (some ⟨b1, 0, none⟩)), (5, true, .int .i64 (ovI z.2)), (19, true, .int .i64 (es.length : Int)), (20, true, .int .i64 (z.1 : Int))])
    (fun z => Cls [] [w0, w]) (0, none) ⟨by simp, fun a h => by simp at h⟩ (by simp only [ovI_none]; exact Sub.au) (fun w' hw' => hw'.forget (by simp)) ?_
  rintro ⟨i, z⟩ ⟨hi, hz⟩
  simp only at hi hz ⊢
  apply W.sr
  apply obn; rfl; rfl; rfl; apply Bin.lss
  apply OL.nx
  apply W.seq
  (refine W.cnd (fun hlt => ?_) (fun hlt => ?_)) <;> (try (exfalso; first | omega | exact hlt trivial | contradiction))
  · have hil : i < es.length := by omega
    have hskip : ¬ An o i p0 → BestOk o p0 es.length (i + 1) z := fun hn => hz.skip hn
    apply W.sk
    apply W.sb
    apply W.sr
    apply omv; rfl; rfl
    apply oas; rfl; rfl
    apply OL.nx
    apply W.seq
    apply W.sr
    apply omv; rfl; rfl
    apply omv; rfl; rfl
    apply obn; rfl; rfl; rfl; apply Bin.eql
    apply omv; rfl; rfl
    apply ono; rfl; rfl; rfl; apply Pev.load_keptA; rfl; exact yes; exact .head _; rfl; intro hcond; assumption; rfl; intro hcond; assumption; intro hcond; exact NotOwned.au
    by_cases hik : i = k
    · subst hik
      (((first | (with_reducible apply OL.op) | (with_reducible apply QL.op)); (exact Guard.au); rfl; rfl); (exact Pev.void (v := .slice none 0 0) (by simp)))
      apply ono; rfl; rfl; rfl; apply Pev.move; rfl; exact yes
      apply OL.gateOff; exact Guard.no rfl rfl; (focus (simp; done)); rfl
      apply OL.gateOff; exact Guard.no rfl rfl; (focus (simp; done)); rfl
      apply OL.gateOff; exact Guard.no rfl rfl; (focus (simp; done)); rfl
      apply oop; rfl; apply Pev.pick_on; rfl; exact yes; (focus (intro hcond; simp; done)); rfl; exact yes
      apply omv; rfl; rfl
      apply ono; rfl; rfl; rfl; apply Pev.load_keptA; rfl; exact yes; exact .head _; rfl; intro hcond; assumption; rfl; intro hcond; assumption; intro hcond; exact NotOwned.au
      apply ono; rfl; rfl; rfl; apply Pev.move; rfl; exact yes
      apply ono; rfl; rfl; rfl; apply Pev.move; rfl; exact yes
      apply OL.gateOff; exact Guard.no rfl rfl; rfl; rfl
      apply OL.gateOff; exact Guard.no rfl rfl; rfl; rfl
      apply oop; rfl; apply Pev.pick_on; rfl; exact yes; (intro hcond; rfl); rfl; exact yes
      apply OL.nx
      refine W.cond rfl (fun _ => ?_) (fun h => by simp at h)
      refine W.xt ?_
      with_reducible apply At.next
      apply W.reg
      apply obn; rfl; rfl; rfl; apply Bin.add_in; omega
      apply omv; rfl; rfl
      apply OL.nil
      exact At.again (i + 1, z) ⟨by simp only; omega, hskip hknot⟩ (by simp only; omega) (by exact Sub.au) (fun w' hw' => hw')
    have hikI : ¬ (i : Int) = (k : Int) := by omega
    refine OL.callG (α := Nat × World) (fun z => .slice (some ⟨z.1, 0, none⟩) es.length es.length) (fun z => z.1 < z.2.heap.size ∧ ∀ j : Nat, j < es.length → z.2.cell? ⟨z.1, 0 + (j : Int).toNat * 1, none⟩ = some (.bool (rcB G (-1) j))) (fun z => Cls [] [z.2, w0, w]) Guard.au (by simp; omega) rfl rfl (by exact Args.au) (fun w2 hw2 => (hRe (-1) w2 _ _ hw2 (by exact mau) (fun k hk => NotOwned.nil)).mono fun e w3 ⟨bR, h1, h2, h3, h4⟩ => ⟨(bR, w3), h1, ⟨h3, h4⟩, (hw2.ext h2).note⟩) ?_
    rintro ⟨bR2, wR2⟩ ⟨hbR2, hcR2⟩
    simp only at hbR2 hcR2 ⊢
    have hcRi := hcR2 i hil
    apply ono; rfl; rfl; rfl; apply Pev.move; rfl; exact yes
    apply ono; rfl; rfl; rfl; apply Pev.idxB; rfl; exact yes; rfl; exact fun h => h; rfl; intro hcond; omega; rfl
    apply ono; rfl; rfl; rfl; apply Pev.load_kept; rfl; exact fun h => h; exact .head _; rfl; intro hcond; assumption; intro hcond; assumption; intro hcond; exact NotOwned.au
    apply ono; rfl; rfl; rfl; apply Pev.not; rfl; exact fun h => h
    apply oop; rfl; apply Pev.pick_or; rfl; exact yes; rfl; exact fun h => h
    apply omv; rfl; rfl
    apply ono; rfl; rfl; rfl; apply Pev.load_keptA; rfl; exact yes; exact .tail _ (.head _); rfl; intro hcond; assumption; rfl; intro hcond; assumption; intro hcond; exact NotOwned.au
    apply ono; rfl; rfl; rfl; apply Pev.move; rfl; exact yes
    apply ono; rfl; rfl; rfl; apply Pev.move; rfl; exact yes
    by_cases hri : ¬ Rc G (-1) i
    · (((first | (with_reducible apply OL.op) | (with_reducible apply QL.op)); (exact Guard.au); rfl; rfl); (exact Pev.void (v := .bool false) (by simp [rcB_not.2 hri])))
      apply ono; rfl; rfl; rfl; apply Pev.not; rfl; exact fun h => h
      apply oop; rfl; apply Pev.pick_or; rfl; exact yes; rfl; exact fun h => h
      apply OL.nx
      refine W.cond rfl (fun _ => ?_) (fun h => by simp [rcB_not.2 hri] at h)
      refine W.xt ?_
      with_reducible apply At.next
      apply W.reg
      apply obn; rfl; rfl; rfl; apply Bin.add_in; omega
      apply omv; rfl; rfl
      apply OL.nil
      exact At.again (i + 1, z) ⟨by simp only; omega, hskip fun h => hri (h.pr hend.w (hpr _ hp0r)).1⟩ (by simp only; omega) (by exact Sub.au) (fun w' hw' => hw'.forget (by simp))
    have hri : Rc G (-1) i := Classical.not_not.1 hri
    refine OL.callG (α := Bool) (fun r => .bool r) (fun r => r = true ↔ An o i p0) (fun _ => Cls [] [wR2, w0, w]) Guard.au (by simp [rcB_iff.2 hri]; omega) rfl rfl (by exact Args.au) (fun w2 hw2 => (hOv i k w2 _ _ hw2 (by exact mau) (fun k hk => NotOwned.nil) hk).mono fun e w3 ⟨r, h1, h2, h3⟩ => ⟨r, h1, h2.trans (hcand i hik), hw2.ext h3⟩) ?_
    intro r hrr
    apply ono; rfl; rfl; rfl; apply Pev.not; rfl; exact yes
    apply oop; rfl; apply Pev.pick_or; rfl; exact yes; rfl; exact fun h => h
    apply OL.nx
    by_cases hAn : ¬ An o i p0
    · obtain rfl : r = false := Bool.eq_false_iff.2 fun h => hAn (hrr.1 h)
      refine W.cond rfl (fun _ => ?_) (fun h => by simp at h)
      refine W.xt ?_
      with_reducible apply At.next
      apply W.reg
      apply obn; rfl; rfl; rfl; apply Bin.add_in; omega
      apply omv; rfl; rfl
      apply OL.nil
      exact At.again (i + 1, z) ⟨by simp only; omega, hskip hAn⟩ (by simp only; omega) (by exact Sub.au) (fun w' hw' => hw'.forget (by simp))
    have hAn : An o i p0 := Classical.not_not.1 hAn
    obtain rfl : r = true := hrr.2 hAn
    refine W.cond rfl (fun h => by rw [rcB_iff.2 hri, decide_eq_false hikI] at h; cases h) (fun _ => ?_)
    apply W.sk
    apply W.sr
    apply omv; rfl; rfl
    apply obn; rfl; rfl; rfl; apply Bin.lss
    apply omv; rfl; rfl
    apply ono; rfl; rfl; rfl; apply Pev.load_keptA; rfl; exact yes; exact .tail _ (.head _); rfl; intro hcond; assumption; rfl; intro hcond; assumption; intro hcond; exact NotOwned.au
    apply ono; rfl; rfl; rfl; apply Pev.move; rfl; exact yes
    apply ono; rfl; rfl; rfl; apply Pev.move; rfl; exact yes
    cases z with
    | none =>
      simp only [ovI_none]
      apply OL.gateOff; exact Guard.no rfl rfl; rfl; rfl
      apply oop; rfl; apply Pev.pick_on; rfl; exact yes; (intro hcond; rfl); rfl; exact yes
      apply OL.nx
      refine W.cond rfl (fun _ => ?_) (fun h => by simp at h)
      apply W.reg
      apply omv; rfl; rfl
      apply oas; rfl; rfl
      apply OL.nil
      with_reducible apply At.in_normal
      with_reducible apply At.next
      apply W.reg
      apply obn; rfl; rfl; rfl; apply Bin.add_in; omega
      apply omv; rfl; rfl
      apply OL.nil
      exact At.again (i + 1, some i) ⟨by simp only; omega, hz.first hAn hil⟩ (by simp only; omega) (by exact Sub.au) (fun w' hw' => hw'.forget (by simp))
    | some b =>
      simp only [ovI_some]
      skip
      have hbI : ¬ (b : Int) < 0 := by omega
      refine OL.callG (α := Bool) (fun r => .bool r) (fun r => r = true ↔ An o b i) (fun _ => Cls [] [wR2, w0, w]) Guard.au (by rw [Bool.not_eq_true']; exact decide_eq_false (by omega)) rfl rfl (by exact Args.au) (fun w2 hw2 => (hOv b i w2 _ _ hw2 (by exact mau) (fun k hk => NotOwned.nil) hil).mono fun e w3 ⟨r, h1, h2, h3⟩ => ⟨r, h1, h2.trans (hdm b i hri).symm, hw2.ext h3⟩) ?_
      intro r hr2
      apply oop; rfl; apply Pev.pick_or; rfl; exact yes; rfl; exact yes
      apply OL.nx
      cases r with
      | true =>
        refine W.cond rfl (fun _ => ?_) (fun h => by simp at h)
        apply W.reg
        apply omv; rfl; rfl
        apply oas; rfl; rfl
        apply OL.nil
        with_reducible apply At.in_normal
        with_reducible apply At.next
        apply W.reg
        apply obn; rfl; rfl; rfl; apply Bin.add_in; omega
        apply omv; rfl; rfl
        apply OL.nil
        exact At.again (i + 1, some i) ⟨by simp only; omega, hz.up hAn hil (hr2.1 rfl)⟩ (by simp only; omega) (by exact Sub.au) (fun w' hw' => hw'.forget (by simp))
      | false =>
        refine W.cond rfl (fun h => by rw [Bool.or_false] at h; exact absurd (of_decide_eq_true h) (by omega)) (fun _ => ?_)
        apply W.skip
        with_reducible apply At.in_normal
        with_reducible apply At.next
        apply W.reg
        apply obn; rfl; rfl; rfl; apply Bin.add_in; omega
        apply omv; rfl; rfl
        apply OL.nil
        exact At.again (i + 1, some b) ⟨by simp only; omega, hz.keep hAn fun h => by have := hr2.2 h; cases this⟩ (by simp only; omega) (by exact Sub.au) (fun w' hw' => hw'.forget (by simp))
  · obtain rfl : i = es.length := by omega
    cases z with
    | none => exact absurd .refl (hz p0 (by omega))
    | some b =>
      obtain ⟨⟨h1, _⟩, h2⟩ := hz
      obtain rfl := (h2 p0 (by omega) .refl).anti hend.w h1
      refine W.xt ?_
      with_reducible apply At.next
      apply W.sr
      apply omv; rfl; rfl
      apply oas; rfl; rfl
      apply OL.nx
      apply W.ret
      ((with_reducible apply At.fin1); rfl; rfl; intro w' hw')
      exact ⟨by rw [hp0], by (exact hw'.fr)⟩
theorem InFrontier_calls (es : List (Bk × BkY)) (q : Option Addr) (cap : Nat) (nm : Int) (a b : Nat) (w : World) (he : Arr bkR w (low w) es q) (hlen : es.length ≤ 128) (hM : ∀ p ∈ es, p.1.term.to_.length ≤ 257) (hb : b < es.length) :
    Calls Try.prog 44 [.agg #[.int .i64 nm, .slice q es.length cap], .int .i64 (a : Int), .int .i64 (b : Int)].toArray w fun e w' => ∃ r : Bool, e = .returned (.bool r) ∧ (r = true ↔ InF (graphB (es.map Prod.fst)) a b) ∧ Ext w w' := by
  obtain ⟨G, hG⟩ : ∃ G, graphB (es.map Prod.fst) = G := ⟨_, rfl⟩
  have hGl : G.length = es.length := by rw [← hG]; simp [graphB]
  have hRe := fun v w2 (H : List Eng.Item) (S : List World) (hw2 : Cls H S w2) (hs : w ∈ S) (hno : ∀ k, k < w.heap.size → NotOwned H k) => Reach_ext es q cap nm v w2 (he.at hw2 hs hno) (by omega)
  have hOv := fun a b w2 (H : List Eng.Item) (S : List World) (hw2 : Cls H S w2) (hs : w ∈ S) (hno : ∀ k, k < w.heap.size → NotOwned H k) => Over_calls es q cap nm a b w2 (he.at hw2 hs hno) (by omega)
  have hPr := fun k w2 (H : List Eng.Item) (S : List World) (hw2 : Cls H S w2) (hs : w ∈ S) (hno : ∀ k, k < w.heap.size → NotOwned H k) => RPreds_calls es q cap nm k w2 (he.at hw2 hs hno) hlen hM
  simp only [hG] at hRe hOv hPr ⊢
  refine enter Try.func44 rfl Try.ntmps44 rfl (Cls.start w) ?_
  (simp only [argEnv, Nat.zero_add, Nat.reduceAdd])
  apply W.sr
  apply OL.box; rfl; rfl; exact CellsL.agg; (intro bk hbk; simp only [AllLe, and_true] at hbk)
  apply oas; rfl; rfl
  apply OL.nx
  apply W.seq
  apply W.sr
  apply oop; rfl; apply Pev.load_blkA; rfl; exact yes; exact .head _; rfl; exact Take.au
  apply omv; rfl; rfl
  apply omv; rfl; rfl
  revert bk
  intro b1 hb1x
  have hb1 : w.heap.size ≤ b1 := by first | exact hb1x | exact hb1x.1
  refine OL.frzD (C' := fun w0 => Cls [] [w0, w]) (fun w0 hc0 => (hc0.thin (.any (fun k hk => by rw [show k = b1 from hk]; exact ⟨hb1, trivial⟩) Thin.nil)).note) (fun w0 hc0 => ?_)
  have hb10 : b1 < w0.heap.size := blk_lt (hc0.item (.head _))
  have hcF : CellsAt w0 ⟨b1, 0, none⟩ [.int .i64 nm, .slice q es.length cap] := fun j v hj => by
    rw [add_mid, blk_cell (hc0.item (.head _)), Nat.zero_add]
    exact hj
  refine OL.callE (α := Bool) (fun r => .bool r) (fun r => r = true ↔ Ovr G a b) (fun _ => Cls [] [w0, w]) rfl rfl (by exact Args.au) (fun w2 hw2 => (hOv a b w2 _ _ hw2 (by exact mau) (fun k hk => NotOwned.nil) hb).mono fun e w3 ⟨r, h1, h2, h3⟩ => ⟨r, h1, h2, hw2.ext h3⟩) ?_
  intro r hr
  apply omv; rfl; rfl
  apply oy; rfl; rfl; rfl; apply Pev.move; rfl; exact yes
  apply oy; rfl; rfl; rfl; apply Pev.move; rfl; exact yes
  apply oy; rfl; rfl; rfl; apply Pev.bin; rfl; exact fun h => h; rfl; exact fun h => h; intro hcond; apply Bin.neq
  apply oop; rfl; apply Pev.pick_and; rfl; exact yes; rfl; exact fun h => h
  apply OL.nx
  by_cases hst : Ovr G a b ∧ a ≠ b
  · obtain rfl : r = true := hr.2 hst.1
    refine W.cond rfl (fun _ => ?_) (fun h => by have := hst.2; simp at h; omega)
    apply W.sr
    apply oas; rfl; rfl
    apply OL.nx
    refine W.rt ?_
    ((with_reducible apply At.fin1); rfl; rfl; intro w' hw')
    exact ⟨false, rfl, ⟨fun h => (by cases h), fun h => absurd hst h.1⟩, by (exact hw'.fr)⟩
  refine W.cond rfl (fun h => ?_) (fun _ => ?_)
  · exfalso
    apply hst
    rw [Bool.and_eq_true] at h
    refine ⟨hr.1 h.1, fun e => ?_⟩
    subst e
    simp at h
  apply W.sk
  apply W.sr
  apply oop; rfl; apply Pev.load_keptA; rfl; exact yes; exact .head _; rfl; intro hcond; assumption; rfl; intro hcond; assumption; intro hcond; exact NotOwned.au
  refine OL.callE (α := Nat × World) (fun z => .slice (some ⟨z.1, 0, none⟩) es.length es.length) (fun z => z.1 < z.2.heap.size ∧ ∀ j : Nat, j < es.length → z.2.cell? ⟨z.1, 0 + (j : Int).toNat * 1, none⟩ = some (.bool (rcB G (-1) j))) (fun z => Cls [] [z.2, w0, w]) rfl rfl (by exact Args.au) (fun w2 hw2 => (hRe (-1) w2 _ _ hw2 (by exact mau) (fun k hk => NotOwned.nil)).mono fun e w3 ⟨bR, h1, h2, h3, h4⟩ => ⟨(bR, w3), h1, ⟨h3, h4⟩, (hw2.ext h2).note⟩) ?_
  rintro ⟨bR, wR⟩ ⟨hbR, hcR⟩
  simp only at hbR hcR ⊢
  apply oas; rfl; rfl
  apply OL.nx
  apply W.seq
  apply W.sr
  apply oop; rfl; apply Pev.load_keptA; rfl; exact yes; exact .tail _ (.head _); rfl; intro hcond; assumption; rfl; intro hcond; assumption; intro hcond; exact NotOwned.au
  apply omv; rfl; rfl
  obtain ⟨P, hPe⟩ : ∃ P, predsF G 0 (b : Int) = P := ⟨_, rfl⟩
  have hGM : ∀ l ∈ G, l.length ≤ 257 := fun l hl => by
    rw [← hG] at hl
    obtain ⟨b, hb, rfl⟩ := List.mem_map.1 hl
    obtain ⟨p, hp, rfl⟩ := List.mem_map.1 hb
    rw [List.length_map]
    exact hM p hp
  have hPl : (predsF G 0 (b : Int)).length ≤ 128 * 257 := Nat.le_trans (predsF_len (M := 257) hGM) (Nat.mul_le_mul_right _ (by omega))
  have hPx : ∀ x ∈ predsF G 0 (b : Int), ∃ p : Nat, x = (p : Int) ∧ p < G.length := fun x hx => by
    obtain ⟨p, l, h1, _, h3⟩ := predsF_mem.1 hx
    exact ⟨p, by omega, (List.getElem?_eq_some_iff.1 h1).1⟩
  refine OL.callE (α := (Option Addr × Nat) × World) (fun z => .slice z.1.1 P.length z.1.2) (fun z => IntsO z.2 (low z.2) P z.1.1) (fun z => Cls [] [z.2, wR, w0, w]) rfl rfl (by exact Args.au) (fun w2 hw2 => (hPr (b : Int) w2 _ _ hw2 (by exact mau) (fun k hk => NotOwned.nil)).mono fun e w3 ⟨q', c', h1, h2, h3⟩ => ⟨((q', c'), w3), by rw [← hPe]; exact h1, by rw [← hPe]; exact h3.mono (fun k hk => hk.2), (hw2.ext h2).note⟩) ?_
  rintro ⟨⟨qp, cp⟩, wP⟩ hIp
  simp only at hIp ⊢
  apply oop; rfl; apply Pev.len_slice; rfl; exact yes; rfl
  apply omv; rfl; rfl
  apply OL.nx
  apply W.block
  have hnot : ¬ (Dm G a b ∧ a ≠ b) := hst
  have hmem : ∀ p : Nat, (p : Int) ∈ P ↔ Go.Ss.Edge G p b := fun p => by rw [← hPe]; exact preds_edge
  rw [hPe] at hPl hPx
  refine W.loop (G := Nat) (fun j => j ≤ P.length ∧ ∀ p : Nat, (p : Int) ∈ P.take j → ¬ (Rc G (-1) p ∧ Dm G a p)) (fun j => P.length - j)
    (fun j => [(1, true, .int .i64 (a : Int)), (3, true, .pointer (some ⟨b1, 0, none⟩)), (7, true, .slice (some ⟨bR, 0, none⟩) es.length es.length), (23, true, .slice qp P.length cp), (24, true, .int .i64 (P.length : Int)), (25, true, .int .i64 (j : Int))])
    (fun j => Cls [] [wP, wR, w0, w]) 0 ⟨by simp, fun p h => by simp at h⟩ (by exact Sub.au) (fun w' hw' => hw') ?_
  rintro j ⟨hj, hall⟩
  apply W.sr
  apply obn; rfl; rfl; rfl; apply Bin.lss
  apply OL.nx
  apply W.seq
  (refine W.cnd (fun hlt => ?_) (fun hlt => ?_)) <;> (try (exfalso; first | omega | exact hlt trivial | contradiction))
  · have hjl : j < P.length := by omega
    obtain ⟨ap, x, hqp, habp, hx, hcx⟩ := hIp.get hjl
    obtain ⟨p, rfl, hpl⟩ := hPx x (List.mem_of_getElem? hx)
    have habp : ap.block < wP.heap.size := habp
    have hpl2 : p < es.length := by omega
    have hcRp := hcR p hpl2
    have hnext : ¬ (Rc G (-1) p ∧ Dm G a p) → ∀ p' : Nat, (p' : Int) ∈ P.take (j + 1) → ¬ (Rc G (-1) p' ∧ Dm G a p') := fun hn p' hp' => by
      rw [List.take_add_one, hx, Option.toList_some] at hp'
      rcases List.mem_append.1 hp' with hp' | hp'
      · exact hall p' hp'
      · have := List.mem_singleton.1 hp'
        obtain rfl : p' = p := by omega
        exact hn
    rw [hqp]
    apply W.sk
    apply W.sb
    apply W.sr
    apply oop; rfl; apply Pev.idx; rfl; exact yes; rfl; exact yes; rfl; rfl; intro hcond; omega
    apply oop; rfl; apply Pev.load_kept; rfl; exact yes; exact .head _; rfl; intro hcond; assumption; intro hcond; (rw [add_block]; assumption); intro hcond; exact NotOwned.au
    apply oas; rfl; rfl
    apply OL.nsr
    apply omv; rfl; rfl
    apply omv; rfl; rfl
    apply oop; rfl; apply Pev.idxB; rfl; exact yes; rfl; exact yes; rfl; intro hcond; omega; rfl
    apply oop; rfl; apply Pev.load_kept; rfl; exact yes; exact .tail _ (.head _); rfl; intro hcond; assumption; intro hcond; assumption; intro hcond; exact NotOwned.au
    apply omv; rfl; rfl
    apply oy; rfl; rfl; rfl; apply Pev.load_keptA; rfl; exact yes; exact .tail _ (.tail _ (.head _)); rfl; intro hcond; assumption; rfl; intro hcond; assumption; intro hcond; exact NotOwned.au
    apply oy; rfl; rfl; rfl; apply Pev.move; rfl; exact yes
    apply oy; rfl; rfl; rfl; apply Pev.move; rfl; exact yes
    by_cases hrp : ¬ Rc G (-1) p
    · (((first | (with_reducible apply OL.op) | (with_reducible apply QL.op)); (exact Guard.au); rfl; rfl); (exact Pev.void (v := .bool false) (rcB_not.2 hrp)))
      apply oop; rfl; apply Pev.pick_and; rfl; exact yes; rfl; exact fun h => h
      apply OL.nx
      refine W.cond rfl (fun h => by simp [rcB_not.2 hrp] at h) (fun _ => ?_)
      apply W.skip
      with_reducible apply At.in_normal
      with_reducible apply At.next
      apply W.reg
      apply obn; rfl; rfl; rfl; apply Bin.add_in; omega
      apply omv; rfl; rfl
      apply OL.nil
      exact At.again (j + 1) ⟨by omega, hnext fun h => hrp h.1⟩ (by omega) (by exact Sub.au) (fun w' hw' => hw')
    have hrp : Rc G (-1) p := Classical.not_not.1 hrp
    refine OL.callG (α := Bool) (fun r => .bool r) (fun r => r = true ↔ Ovr G a p) (fun _ => Cls [] [wP, wR, w0, w]) Guard.au (rcB_iff.2 hrp) rfl rfl (by exact Args.au) (fun w2 hw2 => (hOv a p w2 _ _ hw2 (by exact mau) (fun k hk => NotOwned.nil) hpl2).mono fun e w3 ⟨r, h1, h2, h3⟩ => ⟨r, h1, h2, hw2.ext h3⟩) ?_
    intro r2 hr2
    apply oop; rfl; apply Pev.pick_and; rfl; exact yes; rfl; exact yes
    apply OL.nx
    cases r2 with
    | true =>
      refine W.cond rfl (fun _ => ?_) (fun h => by simp [rcB_iff.2 hrp] at h)
      apply W.sr
      apply oas; rfl; rfl
      apply OL.nx
      refine W.rt ?_
      ((with_reducible apply At.fin1); rfl; rfl; intro w' hw')
      exact ⟨true, rfl, ⟨fun _ => ⟨hnot, p, hrp, (hmem p).1 (List.mem_of_getElem? hx), hr2.1 rfl⟩, fun _ => rfl⟩, by (exact hw'.fr)⟩
    | false =>
      refine W.cond rfl (fun h => by simp at h) (fun _ => ?_)
      apply W.skip
      with_reducible apply At.in_normal
      with_reducible apply At.next
      apply W.reg
      apply obn; rfl; rfl; rfl; apply Bin.add_in; omega
      apply omv; rfl; rfl
      apply OL.nil
      exact At.again (j + 1) ⟨by omega, hnext fun h => by have := hr2.2 h.2; cases this⟩ (by omega) (by exact Sub.au) (fun w' hw' => hw')
  · obtain rfl : j = P.length := by omega
    rw [List.take_length] at hall
    refine W.xt ?_
    with_reducible apply At.next
    apply W.sr
    apply oas; rfl; rfl
    apply OL.nx
    apply W.ret
    ((with_reducible apply At.fin1); rfl; rfl; intro w' hw')
    exact ⟨false, rfl, ⟨fun h => (by cases h), fun ⟨_, p, h1, h2, h3⟩ => absurd ⟨h1, h3⟩ (hall p ((hmem p).2 h2))⟩, by (exact hw'.fr)⟩
end Go.Proofs.Ytehelljmaiophaa.ss
