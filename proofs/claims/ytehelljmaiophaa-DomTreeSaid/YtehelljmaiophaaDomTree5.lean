/- Texts of the proof of DomTree, part 5: rules of a calculus for walking, plain laws, and walks of the functions that the law reaches. No condition. -/
import Derived.SizedLaws
import Derived.Test.YtehelljmaiophaaProg
import Derived.Test.YtehelljmaiophaaDomTree4
/- The walks of ContainsFunc at ints, of dom's isBlock, Tree, Dominates and Closest. Conditions: none. -/
namespace Go.Ss
set_option linter.unusedVariables false
set_option linter.unusedSimpArgs false
open Go.Eng Go.RowKit
set_option linter.unusedVariables false
set_option linter.unusedSimpArgs false
def idxD (f : Int → Bool) : List Int → Nat → Int
  | [], _ => -1
  | p :: r, i => if f p = true then (i : Int) else idxD f r (i + 1)
theorem idxD_drop {f : Int → Bool} {l : List Int} {i k : Nat} {p : Int} (h : l[i]? = some p) : idxD f (l.drop i) k = if f p = true then (k : Int) else idxD f (l.drop (i + 1)) (k + 1) := by
  obtain ⟨h1, rfl⟩ := List.getElem?_eq_some_iff.1 h
  rw [List.drop_eq_getElem_cons h1, idxD]
theorem idxD_any (f : Int → Bool) : ∀ (ps : List Int) (i : Nat), decide (0 ≤ idxD f ps i) = ps.any f
  | [], i => rfl
  | p :: r, i => by
    rw [idxD, List.any_cons]
    split
    · rename_i h
      rw [h, Bool.true_or]
      simp
    · rename_i h
      rw [idxD_any f r (i + 1), Bool.eq_false_iff.2 h, Bool.false_or]
theorem CellsAt.ext {w w' : World} {b : Nat} {l : List Value} (h : CellsAt w ⟨b, 0, none⟩ l) (hb : b < w.heap.size) (hx : Ext w w') : CellsAt w' ⟨b, 0, none⟩ l := fun j v hj => by
  have h1 := h j v hj
  have h2 := hx.block b hb id
  rw [add_mid] at h1 ⊢
  unfold World.cell? at h1 ⊢
  rw [h2]
  exact h1
def inB (n : Nat) (a b : Int) : Bool := !([a, b].any fun p => decide (p < 0) || decide ((n : Int) ≤ p))
theorem inB_true {n : Nat} {a b : Int} (h : inB n a b = true) : ∃ x z : Nat, a = (x : Int) ∧ b = (z : Int) ∧ x < n ∧ z < n := by
  have h1 : (0 ≤ a ∧ a < n) ∧ 0 ≤ b ∧ b < n := by simpa [inB] using h
  exact ⟨a.toNat, b.toNat, by omega, by omega, by omega, by omega⟩
end Go.Ss
namespace Go.Proofs.Ytehelljmaiophaa.ss
set_option linter.unusedVariables false
set_option linter.unusedSimpArgs false
set_option maxRecDepth 100000
open Go.Eng Go.RowKit Go.Ss
set_option linter.unusedVariables false
set_option linter.unusedSimpArgs false
theorem ZIndexFunc_calls (q : Option Addr) (cap : Nat) (l : List Int) (f : FuncId) (first caps : List Value) (pr : Int → Bool) (w : World) (hlen : l.length ≤ 9223372036854775807) (h : IntsO w (low w) l q)
    (hf : callable Try.prog f = true) (hp : ∀ p ∈ l, ∀ w', Ext w w' → Calls Try.prog f (first ++ [Value.int .i64 p] ++ caps).toArray w' fun e w'' => e = .returned (.bool (pr p)) ∧ Ext w' w'') :
    Calls Try.prog 116 [.slice q l.length cap, .func (.func f) first.toArray caps.toArray].toArray w fun e w' => e = .returned (.int .i64 (idxD pr l 0)) ∧ Ext w w' := by
  refine enter Try.func116 rfl Try.ntmps116 rfl (Cls.start w) ?_
  (simp only [argEnv, Nat.zero_add, Nat.reduceAdd])
  apply W.sr
  apply oas; rfl; rfl
  apply OL.nx
  apply W.seq
  apply W.sr
  apply omv; rfl; rfl
  apply oop; rfl; apply Pev.len_slice; rfl; exact yes; rfl
  apply omv; rfl; rfl
  apply OL.nx
  apply W.block
  refine W.loop (G := Nat) (fun i => i ≤ l.length ∧ idxD pr (l.drop i) i = idxD pr l 0) (fun i => l.length - i)
    (fun i => [(8, true, .int .i64 (i : Int)), (7, true, .int .i64 (l.length : Int)), (0, true, .slice q l.length cap), (1, true, .func (.func f) first.toArray caps.toArray)])
    (fun i => Cls [] [w]) 0 ⟨by omega, rfl⟩ (by exact Sub.au) (fun w' hw' => hw') ?_
  rintro i ⟨hi, hrest⟩
  apply W.sr
  apply obn; rfl; rfl; rfl; apply Bin.lss
  apply OL.nx
  apply W.seq
  (refine W.cnd (fun hlt => ?_) (fun hlt => ?_)) <;> (try (exfalso; first | omega | exact hlt trivial | contradiction))
  · obtain ⟨a, p, rfl, hab, hu, hcell⟩ := h.get (show i < l.length by omega)
    have hab : a.block < w.heap.size := hab
    have hpu := fun w3 => hp p (List.mem_of_getElem? hu) w3
    rw [idxD_drop hu] at hrest
    apply W.sk
    apply W.sb
    apply W.sr
    apply omv; rfl; rfl
    apply oas; rfl; rfl
    apply OL.nsr
    apply omv; rfl; rfl
    apply omv; rfl; rfl
    apply omv; rfl; rfl
    apply oop; rfl; apply Pev.idx; rfl; exact yes; rfl; exact yes; rfl; rfl; intro hcond; omega
    apply oop; rfl; apply Pev.load_kept; rfl; exact yes; exact .head _; rfl; intro hcond; assumption; intro hcond; (rw [add_block]; assumption); intro hcond; exact NotOwned.au
    (((first | (with_reducible apply OL.op) | (with_reducible apply QL.op)); (exact Guard.au); rfl; rfl); (apply Pev.callv (first := first) (cap := caps)); rfl; ((first | exact fun _ => rfl | exact fun h => h | (intro h; simp_all; done))); (exact hf); (exact Args.au); (exact (fun _ w2 hw2 => (hpu w2 (hw2.toExt (by exact mau) (fun k hk => by exact NotOwned.au))).mono (fun e w3 h => ⟨h.1, hw2.ext h.2⟩))))
    apply OL.nx
    refine W.cond rfl (fun heq => ?_) (fun heq => ?_)
    · rw [if_pos heq] at hrest
      apply W.sr
      apply omv; rfl; rfl
      apply oas; rfl; rfl
      apply OL.nx
      refine W.rt ?_
      ((with_reducible apply At.fin1); rfl; rfl; intro w' hw')
      exact ⟨by rw [hrest], by (exact hw'.fr)⟩
    · rw [if_neg (by simpa using heq)] at hrest
      apply W.skip
      with_reducible apply At.in_normal
      with_reducible apply At.next
      apply W.reg
      apply obn; rfl; rfl; rfl; apply Bin.add_in; omega
      apply omv; rfl; rfl
      apply OL.nil
      exact At.again (i + 1) ⟨by omega, hrest⟩ (by omega) (by exact Sub.au) (fun w' hw' => hw'.thin (by exact Thin.au))
  · rw [List.drop_eq_nil_of_le (by omega), idxD] at hrest
    refine W.xt ?_
    with_reducible apply At.next
    apply W.sr
    apply oas; rfl; rfl
    apply OL.nx
    apply W.ret
    ((with_reducible apply At.fin1); rfl; rfl; intro w' hw')
    exact ⟨by rw [← hrest], by (exact hw'.fr)⟩
theorem ZContainsFunc_calls (q : Option Addr) (cap : Nat) (l : List Int) (f : FuncId) (first caps : List Value) (pr : Int → Bool) (w : World) (hlen : l.length ≤ 9223372036854775807) (h : IntsO w (low w) l q)
    (hf : callable Try.prog f = true) (hp : ∀ p ∈ l, ∀ w', Ext w w' → Calls Try.prog f (first ++ [Value.int .i64 p] ++ caps).toArray w' fun e w'' => e = .returned (.bool (pr p)) ∧ Ext w' w'') :
    Calls Try.prog 75 [.slice q l.length cap, .func (.func f) first.toArray caps.toArray].toArray w fun e w' => e = .returned (.bool (l.any pr)) ∧ Ext w w' := by
  refine enter Try.func75 rfl Try.ntmps75 rfl (Cls.start w) ?_
  (simp only [argEnv, Nat.zero_add, Nat.reduceAdd])
  apply W.sr
  apply oas; rfl; rfl
  apply OL.nsr
  apply omv; rfl; rfl
  apply omv; rfl; rfl
  (((first | (with_reducible apply OL.op) | (with_reducible apply QL.op)); (exact Guard.au); rfl; rfl); (exact Pev.call rfl (by exact Args.au) (fun _ w2 hw2 => (ZIndexFunc_calls q cap l f first caps pr w2 hlen (h.at hw2 (by exact mau) (fun k hk => NotOwned.nil)) hf (fun s hs w3 h3 => hp s hs w3 ((hw2.toExt (s := w) (by exact mau) (fun k hk => by exact NotOwned.au)).trans h3))).mono (fun e w3 h => ⟨h.1, hw2.ext h.2⟩))))
  apply obn; rfl; rfl; rfl; apply Bin.geq
  apply oas; rfl; rfl
  apply OL.nx
  apply W.ret
  ((with_reducible apply At.fin1); rfl; rfl; intro w' hw')
  exact ⟨by rw [← idxD_any pr l 0], by (exact hw'.fr)⟩
theorem isBlock1_calls (p nm : Int) (n cap b : Nat) (q : Option Addr) (w : World) (hc : CellsAt w ⟨b, 0, none⟩ [.int .i64 nm, .slice q n cap]) (hb : b < w.heap.size) :
    Calls Try.prog 128 [.int .i64 p, .pointer (some ⟨b, 0, none⟩)].toArray w fun e w' => e = .returned (.bool (decide (p < 0) || decide ((n : Int) ≤ p))) ∧ Ext w w' := by
  have hc1 : w.cell? ⟨b, 0 + 1, none⟩ = some (.slice q n cap) := hc 1 _ rfl
  refine enter Try.func128 rfl Try.ntmps128 rfl (Cls.start w) ?_
  (simp only [argEnv, Nat.zero_add, Nat.reduceAdd])
  apply W.sr
  apply oas; rfl; rfl
  apply OL.nsr
  apply omv; rfl; rfl
  apply obn; rfl; rfl; rfl; apply Bin.lss
  apply omv; rfl; rfl
  apply ono; rfl; rfl; rfl; apply Pev.move; rfl; exact yes
  apply ono; rfl; rfl; rfl; apply Pev.fld; rfl; exact yes; rfl
  apply ono; rfl; rfl; rfl; apply Pev.load_kept; rfl; exact fun h => h; exact .head _; rfl; intro hcond; assumption; intro hcond; assumption; intro hcond; exact NotOwned.au
  apply ono; rfl; rfl; rfl; apply Pev.len_slice; rfl; exact fun h => h; rfl
  apply ono; rfl; rfl; rfl; apply Pev.bin; rfl; exact fun h => h; rfl; exact fun h => h; intro hcond; apply Bin.geq
  apply oop; rfl; apply Pev.pick_or; rfl; exact yes; rfl; exact fun h => h
  apply oas; rfl; rfl
  apply OL.nx
  apply W.ret
  ((with_reducible apply At.fin1); rfl; rfl; intro w' hw')
  exact ⟨rfl, by (exact hw'.fr)⟩
theorem isBlock_calls (nm : Int) (n cap cap2 : Nat) (q q2 : Option Addr) (l : List Int) (w : World) (hl : l.length ≤ 1000000) (hI : IntsO w (low w) l q2) :
    Calls Try.prog 92 [.agg #[.int .i64 nm, .slice q n cap], .slice q2 l.length cap2].toArray w fun e w' => e = .returned (.bool (!l.any fun p => decide (p < 0) || decide ((n : Int) ≤ p))) ∧ Ext w w' := by
  refine enter Try.func92 rfl Try.ntmps92 rfl (Cls.start w) ?_
  (simp only [argEnv, Nat.zero_add, Nat.reduceAdd])
  apply W.sr
  apply OL.box; rfl; rfl; exact CellsL.agg; (intro bk hbk; simp only [AllLe, and_true] at hbk)
  apply oas; rfl; rfl
  apply OL.nsr
  apply omv; rfl; rfl
  apply oop; rfl; apply Pev.makeFunc; exact Args.au; exact Args.au
  revert bk
  intro b hb
  have hb1 : w.heap.size ≤ b := by first | exact hb | exact hb.1
  refine OL.frzD (C' := fun w0 => Cls [] [w0, w]) (fun w0 hc0 => (hc0.thin (.any (fun k hk => by rw [show k = b from hk]; exact ⟨hb1, trivial⟩) Thin.nil)).note) (fun w0 hc0 => ?_)
  have hb0 : b < w0.heap.size := blk_lt (hc0.item (.head _))
  have hcF : CellsAt w0 ⟨b, 0, none⟩ [.int .i64 nm, .slice q n cap] := fun j v hj => by
    rw [add_mid, blk_cell (hc0.item (.head _)), Nat.zero_add]
    exact hj
  skip
  (((first | (with_reducible apply OL.op) | (with_reducible apply QL.op)); (exact Guard.au); rfl; rfl); (exact Pev.call (v := .bool (l.any fun p => decide (p < 0) || decide ((n : Int) ≤ p))) rfl (by exact Args.au) (fun _ w2 hw2 => (ZContainsFunc_calls q2 cap2 l 128 [] [.pointer (some ⟨b, 0, none⟩)] (fun p => decide (p < 0) || decide ((n : Int) ≤ p)) w2 (by omega) (hI.at hw2 (by exact mau) (fun k hk => NotOwned.nil)) rfl (fun p _ w' hx => isBlock1_calls p nm n cap b q w' (CellsAt.ext hcF hb0 ((hw2.toExt (s := w0) (by exact mau) (fun k hk => NotOwned.nil)).trans hx)) (by have := hx.size; have := (hw2.kp w0 (by exact mau)).size; omega))).mono (fun e w3 h => ⟨h.1, hw2.ext h.2⟩))))
  apply oop; rfl; apply Pev.not; rfl; exact yes
  apply oas; rfl; rfl
  apply OL.nx
  apply W.ret
  ((with_reducible apply At.fin1); rfl; rfl; intro w' hw')
  exact ⟨rfl, by (exact hw'.fr)⟩
theorem DTree_calls (fn : Go.Ss.Fn) (y : FnY) (w : World) (hfn : FnOk w (low w) fn y) :
    Calls Try.prog 45 [.agg (fnC fn y).toArray].toArray w fun e w' => Ext w w' ∧ ((funcE fn ≠ 0 ∧ e = .returned (.tuple #[.slice none 0 0, .int .i64 (funcE fn)])) ∨ (funcE fn = 0 ∧ ∃ bI o, e = .returned (.tuple #[.slice (some ⟨bI, 0, none⟩) fn.blocks.length fn.blocks.length, .int .i64 0]) ∧ IntsO w' (low w') (tabI fn.blocks.length fun k => ovI (o k)) (some ⟨bI, 0, none⟩) ∧ EndR (graphB fn.blocks) (plN (graphB fn.blocks)) o ∧ ∀ a k, Rc (graphB fn.blocks) (-1) k → (An o a k ↔ Dm (graphB fn.blocks) a k))) := by
  have hfn0 := hfn
  obtain ⟨nm, bs⟩ := fn
  obtain ⟨q, cap⟩ := y
  have hbl := hfn.bl
  have hF : ∀ (H : List Eng.Item) (S : List World) (w2 : World), Cls H S w2 → w ∈ S → (∀ k, k < w.heap.size → NotOwned H k) → FnOk w2 (low w2) ⟨nm, bs⟩ ⟨q, cap⟩ := fun H S w2 hw2 hs hno => fnR.mono (hw2.up hs) (fnR.stab (hw2.same hs hno) hfn0)
  have hBu := fun w2 (H : List Eng.Item) (S : List World) hw2 hs hno => dbuild_calls ⟨nm, bs⟩ ⟨q, cap⟩ w2 (hF H S w2 hw2 hs hno)
  obtain ⟨er, her⟩ : ∃ er, funcE ⟨nm, bs⟩ = er := ⟨_, rfl⟩
  obtain ⟨G, hG⟩ : ∃ G, graphB bs = G := ⟨_, rfl⟩
  have hGl : G.length = bs.length := by rw [← hG]; simp [graphB]
  simp only [fnC, her, hG, ← hGl] at hBu ⊢
  refine enter Try.func45 rfl Try.ntmps45 rfl (Cls.start w) ?_
  (simp only [argEnv, Nat.zero_add, Nat.reduceAdd])
  apply W.sr
  apply OL.box; rfl; rfl; exact CellsL.agg; (intro bk hbk; simp only [AllLe, and_true] at hbk)
  apply oas; rfl; rfl
  apply oas; rfl; rfl
  apply OL.nsr
  apply oop; rfl; apply Pev.load_blkA; rfl; exact yes; exact .head _; rfl; exact Take.au
  revert bk
  intro b1 hb1x
  have hb1 : w.heap.size ≤ b1 := by first | exact hb1x | exact hb1x.1
  refine OL.frzD (C' := fun w0 => Cls [] [w0, w]) (fun w0 hc0 => (hc0.thin (.any (fun k hk => by rw [show k = b1 from hk]; exact ⟨hb1, trivial⟩) Thin.nil)).note) (fun w0 hc0 => ?_)
  have hb10 : b1 < w0.heap.size := blk_lt (hc0.item (.head _))
  have hw0 : w.heap.size ≤ w0.heap.size := (hc0.kp w (.head _)).size
  have hcF : CellsAt w0 ⟨b1, 0, none⟩ [.int .i64 nm, .slice q G.length cap] := fun j v hj => by
    rw [add_mid, blk_cell (hc0.item (.head _)), Nat.zero_add]
    exact hj
  by_cases hne : er ≠ 0
  · (((first | (with_reducible apply OL.op) | (with_reducible apply QL.op)); (exact Guard.au); rfl; rfl); (exact Pev.call (v := .tuple #[.agg #[.slice none 0 0, .slice none 0 0], .int .i64 er]) rfl (by exact Args.au) (fun _ w2 hw2 => (hBu w2 _ _ hw2 (by exact mau) (fun k hk => NotOwned.nil)).mono (fun e w3 h => ⟨by rcases h.2 with h2 | h2; exact h2.2; exact absurd h2.1 hne, hw2.ext h.1⟩))))
    apply omv; rfl; rfl
    apply oex; rfl; rfl; rfl
    apply oex; rfl; rfl; rfl
    apply OL.alloc; rfl; rfl; exact CellsL.agg; (intro bk hbk; simp only [AllLe, and_true] at hbk)
    apply OL.storeB; rfl; rfl; exact CellsL.agg; rfl; rfl; rfl; exact Swap.au; exact Put.au
    apply oas; rfl; rfl
    apply OL.nsr
    apply ofa; rfl; rfl; rfl
    apply old; rfl; rfl; exact .head _; rfl; rfl
    apply omv; rfl; rfl
    apply oas; rfl; rfl
    apply oas; rfl; rfl
    apply OL.nx
    apply W.ret
    revert bk
    intro b2 hb2x
    have hb2 : w0.heap.size ≤ b2 := by first | exact hb2x | exact hb2x.1
    skip
    ((with_reducible apply At.fin2); rfl; rfl; rfl; intro w' hw')
    exact ⟨hw'.toExt (by exact mau) (fun k hk => NotOwned.blk (by omega) NotOwned.nil), .inl ⟨hne, rfl⟩⟩
  obtain rfl : er = 0 := Classical.not_not.1 hne
  obtain ⟨h0, h128, hs0⟩ := func_zero her
  simp only at h0 h128 hs0
  have hGE : ∀ l ∈ G, ∀ x ∈ l, 0 ≤ x ∧ x < (G.length : Int) := fun l hl x hx => by
    rw [← hG] at hl
    obtain ⟨b, hb, rfl⟩ := List.mem_map.1 hl
    obtain ⟨e, he, rfl⟩ := List.mem_map.1 hx
    have := shape_edges hs0 b hb e he
    omega
  have hG0 : 0 < G.length := by omega
  have hGn : G.length ≤ 128 := by omega
  have hord := ordOk hGE hG0
  refine OL.callE (α := (Nat × Nat × (Nat → Option Nat)) × World) (fun z => .tuple #[.agg #[.slice (some ⟨z.1.1, 0, none⟩) G.length G.length, .slice (some ⟨z.1.2.1, 0, none⟩) G.length G.length], .int .i64 0]) (fun z => Ext w z.2 ∧ Ext w0 z.2 ∧ IntsO z.2 (low z.2) (tabI G.length fun k => ovI (z.1.2.2 k)) (some ⟨z.1.1, 0, none⟩) ∧ IntsO z.2 (low z.2) (tabI G.length (plc0 G)) (some ⟨z.1.2.1, 0, none⟩) ∧ EndR G (plN G) z.1.2.2 ∧ ∀ a k, Rc G (-1) k → (An z.1.2.2 a k ↔ Dm G a k)) (fun z => Cls [] [z.2, w0, w]) rfl rfl (by exact Args.au) (fun w2 hw2 => (hBu w2 _ _ hw2 (by exact mau) (fun k hk => NotOwned.nil)).mono fun e w3 ⟨h2, h3⟩ => ?_) ?_
  · rcases h3 with ⟨h3, _⟩ | ⟨_, bI, bP, o, h4, h5, h6, h7⟩
    · exact absurd rfl h3
    · have hx := hw2.ext h2
      exact ⟨((bI, bP, o), w3), h4, ⟨hx.toExt (by exact mau) (fun k hk => NotOwned.nil), hx.toExt (by exact mau) (fun k hk => NotOwned.nil), h5.mono (fun k hk => hk.2), h6.mono (fun k hk => hk.2), h7⟩, hx.note⟩
  rintro ⟨⟨bI, bP, o⟩, wB⟩ ⟨hxB, hx0B, hII, hIP, hend, hdm⟩
  simp only at hxB hx0B hII hIP hend hdm ⊢
  have hbIB : bI < wB.heap.size := by
    obtain ⟨a, _, ha, hb, _⟩ := hII.get (i := 0) (by rw [tabI_length]; exact hG0)
    obtain rfl := Option.some.inj ha
    exact hb
  have hbPB : bP < wB.heap.size := by
    obtain ⟨a, _, ha, hb, _⟩ := hIP.get (i := 0) (by rw [tabI_length]; exact hG0)
    obtain rfl := Option.some.inj ha
    exact hb
  have hwB : w0.heap.size ≤ wB.heap.size := hx0B.size
  apply omv; rfl; rfl
  apply oex; rfl; rfl; rfl
  apply oex; rfl; rfl; rfl
  apply OL.alloc; rfl; rfl; exact CellsL.agg; (intro bk hbk; simp only [AllLe, and_true] at hbk)
  apply OL.storeB; rfl; rfl; exact CellsL.agg; rfl; rfl; rfl; exact Swap.au; exact Put.au
  apply oas; rfl; rfl
  apply OL.nsr
  apply ofa; rfl; rfl; rfl
  apply old; rfl; rfl; exact .head _; rfl; rfl
  apply omv; rfl; rfl
  apply oas; rfl; rfl
  apply oas; rfl; rfl
  apply OL.nx
  apply W.ret
  revert bk
  intro b2 hb2x
  have hb2 : wB.heap.size ≤ b2 := by first | exact hb2x | exact hb2x.1
  skip
  ((with_reducible apply At.fin2); rfl; rfl; rfl; intro w' hw')
  exact ⟨hw'.toExt (by exact mau) (fun k hk => NotOwned.blk (by omega) NotOwned.nil), .inr ⟨by trivial, bI, o, rfl, hII.at hw' (by exact mau) (fun k hk => NotOwned.blk (by omega) NotOwned.nil), hend, hdm⟩⟩
theorem DDominates_calls (fn : Go.Ss.Fn) (y : FnY) (a b : Int) (w : World) (hfn : FnOk w (low w) fn y) :
    Calls Try.prog 46 [.agg (fnC fn y).toArray, .int .i64 a, .int .i64 b].toArray w fun e w' => Ext w w' ∧ ((funcE fn ≠ 0 ∧ e = .returned (.tuple #[.bool false, .int .i64 (funcE fn)])) ∨ (funcE fn = 0 ∧ ((inB fn.blocks.length a b = false ∧ e = .returned (.tuple #[.bool false, .int .i64 4])) ∨ ∃ (x z : Nat) (r : Bool), a = (x : Int) ∧ b = (z : Int) ∧ x < fn.blocks.length ∧ z < fn.blocks.length ∧ e = .returned (.tuple #[.bool r, .int .i64 0]) ∧ (r = true ↔ ¬ Rc (graphB fn.blocks) (-1) z ∨ Dm (graphB fn.blocks) x z)))) := by
  have hfn0 := hfn
  obtain ⟨nm, bs⟩ := fn
  obtain ⟨q, cap⟩ := y
  have hbl := hfn.bl
  have hF : ∀ (H : List Eng.Item) (S : List World) (w2 : World), Cls H S w2 → w ∈ S → (∀ k, k < w.heap.size → NotOwned H k) → FnOk w2 (low w2) ⟨nm, bs⟩ ⟨q, cap⟩ := fun H S w2 hw2 hs hno => fnR.mono (hw2.up hs) (fnR.stab (hw2.same hs hno) hfn0)
  have hBu := fun w2 (H : List Eng.Item) (S : List World) hw2 hs hno => dbuild_calls ⟨nm, bs⟩ ⟨q, cap⟩ w2 (hF H S w2 hw2 hs hno)
  obtain ⟨er, her⟩ : ∃ er, funcE ⟨nm, bs⟩ = er := ⟨_, rfl⟩
  obtain ⟨G, hG⟩ : ∃ G, graphB bs = G := ⟨_, rfl⟩
  have hGl : G.length = bs.length := by rw [← hG]; simp [graphB]
  simp only [fnC, her, hG, ← hGl] at hBu ⊢
  refine enter Try.func46 rfl Try.ntmps46 rfl (Cls.start w) ?_
  (simp only [argEnv, Nat.zero_add, Nat.reduceAdd])
  apply W.sr
  apply OL.box; rfl; rfl; exact CellsL.agg; (intro bk hbk; simp only [AllLe, and_true] at hbk)
  apply oas; rfl; rfl
  apply oas; rfl; rfl
  apply OL.nsr
  apply oop; rfl; apply Pev.load_blkA; rfl; exact yes; exact .head _; rfl; exact Take.au
  revert bk
  intro b1 hb1x
  have hb1 : w.heap.size ≤ b1 := by first | exact hb1x | exact hb1x.1
  refine OL.frzD (C' := fun w0 => Cls [] [w0, w]) (fun w0 hc0 => (hc0.thin (.any (fun k hk => by rw [show k = b1 from hk]; exact ⟨hb1, trivial⟩) Thin.nil)).note) (fun w0 hc0 => ?_)
  have hb10 : b1 < w0.heap.size := blk_lt (hc0.item (.head _))
  have hw0 : w.heap.size ≤ w0.heap.size := (hc0.kp w (.head _)).size
  have hcF : CellsAt w0 ⟨b1, 0, none⟩ [.int .i64 nm, .slice q G.length cap] := fun j v hj => by
    rw [add_mid, blk_cell (hc0.item (.head _)), Nat.zero_add]
    exact hj
  by_cases hne : er ≠ 0
  · (((first | (with_reducible apply OL.op) | (with_reducible apply QL.op)); (exact Guard.au); rfl; rfl); (exact Pev.call (v := .tuple #[.agg #[.slice none 0 0, .slice none 0 0], .int .i64 er]) rfl (by exact Args.au) (fun _ w2 hw2 => (hBu w2 _ _ hw2 (by exact mau) (fun k hk => NotOwned.nil)).mono (fun e w3 h => ⟨by rcases h.2 with h2 | h2; exact h2.2; exact absurd h2.1 hne, hw2.ext h.1⟩))))
    apply omv; rfl; rfl
    apply oex; rfl; rfl; rfl
    apply oex; rfl; rfl; rfl
    apply OL.alloc; rfl; rfl; exact CellsL.agg; (intro bk hbk; simp only [AllLe, and_true] at hbk)
    apply OL.storeB; rfl; rfl; exact CellsL.agg; rfl; rfl; rfl; exact Swap.au; exact Put.au
    apply oas; rfl; rfl
    apply OL.nx
    apply W.sb
    apply W.sr
    apply omv; rfl; rfl
    apply obn; rfl; rfl; rfl; apply Bin.neq
    apply oas; rfl; rfl
    apply OL.nx
    revert bk
    intro b2 hb2x
    have hb2 : w0.heap.size ≤ b2 := by first | exact hb2x | exact hb2x.1
    skip
    refine W.cond rfl (fun _ => ?_) (fun h => by simp at h; exact absurd h hne)
    apply W.sr
    apply omv; rfl; rfl
    apply oas; rfl; rfl
    apply oas; rfl; rfl
    apply OL.nx
    refine W.rt ?_
    ((with_reducible apply At.fin2); rfl; rfl; rfl; intro w' hw')
    exact ⟨hw'.toExt (by exact mau) (fun k hk => NotOwned.blk (by omega) NotOwned.nil), .inl ⟨hne, rfl⟩⟩
  obtain rfl : er = 0 := Classical.not_not.1 hne
  obtain ⟨h0, h128, hs0⟩ := func_zero her
  simp only at h0 h128 hs0
  have hGE : ∀ l ∈ G, ∀ x ∈ l, 0 ≤ x ∧ x < (G.length : Int) := fun l hl x hx => by
    rw [← hG] at hl
    obtain ⟨b, hb, rfl⟩ := List.mem_map.1 hl
    obtain ⟨e, he, rfl⟩ := List.mem_map.1 hx
    have := shape_edges hs0 b hb e he
    omega
  have hG0 : 0 < G.length := by omega
  have hGn : G.length ≤ 128 := by omega
  have hord := ordOk hGE hG0
  refine OL.callE (α := (Nat × Nat × (Nat → Option Nat)) × World) (fun z => .tuple #[.agg #[.slice (some ⟨z.1.1, 0, none⟩) G.length G.length, .slice (some ⟨z.1.2.1, 0, none⟩) G.length G.length], .int .i64 0]) (fun z => Ext w z.2 ∧ Ext w0 z.2 ∧ IntsO z.2 (low z.2) (tabI G.length fun k => ovI (z.1.2.2 k)) (some ⟨z.1.1, 0, none⟩) ∧ IntsO z.2 (low z.2) (tabI G.length (plc0 G)) (some ⟨z.1.2.1, 0, none⟩) ∧ EndR G (plN G) z.1.2.2 ∧ ∀ a k, Rc G (-1) k → (An z.1.2.2 a k ↔ Dm G a k)) (fun z => Cls [] [z.2, w0, w]) rfl rfl (by exact Args.au) (fun w2 hw2 => (hBu w2 _ _ hw2 (by exact mau) (fun k hk => NotOwned.nil)).mono fun e w3 ⟨h2, h3⟩ => ?_) ?_
  · rcases h3 with ⟨h3, _⟩ | ⟨_, bI, bP, o, h4, h5, h6, h7⟩
    · exact absurd rfl h3
    · have hx := hw2.ext h2
      exact ⟨((bI, bP, o), w3), h4, ⟨hx.toExt (by exact mau) (fun k hk => NotOwned.nil), hx.toExt (by exact mau) (fun k hk => NotOwned.nil), h5.mono (fun k hk => hk.2), h6.mono (fun k hk => hk.2), h7⟩, hx.note⟩
  rintro ⟨⟨bI, bP, o⟩, wB⟩ ⟨hxB, hx0B, hII, hIP, hend, hdm⟩
  simp only at hxB hx0B hII hIP hend hdm ⊢
  have hbIB : bI < wB.heap.size := by
    obtain ⟨a, _, ha, hb, _⟩ := hII.get (i := 0) (by rw [tabI_length]; exact hG0)
    obtain rfl := Option.some.inj ha
    exact hb
  have hbPB : bP < wB.heap.size := by
    obtain ⟨a, _, ha, hb, _⟩ := hIP.get (i := 0) (by rw [tabI_length]; exact hG0)
    obtain rfl := Option.some.inj ha
    exact hb
  have hwB : w0.heap.size ≤ wB.heap.size := hx0B.size
  apply omv; rfl; rfl
  apply oex; rfl; rfl; rfl
  apply oex; rfl; rfl; rfl
  apply OL.alloc; rfl; rfl; exact CellsL.agg; (intro bk hbk; simp only [AllLe, and_true] at hbk)
  apply OL.storeB; rfl; rfl; exact CellsL.agg; rfl; rfl; rfl; exact Swap.au; exact Put.au
  apply oas; rfl; rfl
  apply OL.nx
  apply W.sb
  apply W.sr
  apply omv; rfl; rfl
  apply obn; rfl; rfl; rfl; apply Bin.neq
  apply oas; rfl; rfl
  apply OL.nx
  revert bk
  intro b2 hb2x
  have hb2 : wB.heap.size ≤ b2 := by first | exact hb2x | exact hb2x.1
  refine W.frzD (C' := fun wC => Cls [] [wC, wB, w0, w]) (fun wC hcC => (hcC.thin (.any (fun k hk => by rw [show k = b2 from hk]; exact ⟨hb2, Nat.le_trans hwB hb2, Nat.le_trans (Nat.le_trans hw0 hwB) hb2, trivial⟩) Thin.nil)).note) (fun wC hcC => ?_)
  have hb2C : b2 < wC.heap.size := blk_lt (hcC.item (.head _))
  have hcB : CellsAt wC ⟨b2, 0, none⟩ [.slice (some ⟨bI, 0, none⟩) G.length G.length, .slice (some ⟨bP, 0, none⟩) G.length G.length] := fun j v hj => by
    rw [add_mid, blk_cell (hcC.item (.head _)), Nat.zero_add]
    exact hj
  have hcB0 : wC.cell? ⟨b2, 0 + 0, none⟩ = some (.slice (some ⟨bI, 0, none⟩) G.length G.length) := hcB 0 _ rfl
  have hcB1 : wC.cell? ⟨b2, 0 + 1, none⟩ = some (.slice (some ⟨bP, 0, none⟩) G.length G.length) := hcB 1 _ rfl
  refine W.cond rfl (fun h => by simp at h) (fun _ => ?_)
  apply W.sr
  apply oop; rfl; apply Pev.load_keptA; rfl; exact yes; exact .tail _ (.tail _ (.head _)); rfl; intro hcond; assumption; rfl; intro hcond; assumption; intro hcond; exact NotOwned.au
  apply omv; rfl; rfl
  apply omv; rfl; rfl
  apply OL.buildSlice; rfl; rfl; rfl; exact Elems.au; rfl; rfl; (intro bk hbk; simp only [AllLe, and_true] at hbk)
  revert bk
  intro b3 hb3x
  have hb3 : wC.heap.size ≤ b3 := by first | exact hb3x | exact hb3x.1
  have hwC : wB.heap.size ≤ wC.heap.size := (hcC.kp wB (.head _)).size
  skip
  (((first | (with_reducible apply OL.op) | (with_reducible apply QL.op)); (exact Guard.au); rfl; rfl); (exact Pev.call (v := .bool (inB G.length a b)) rfl (by exact Args.au) (fun _ w2 hw2 => (isBlock_calls nm G.length cap 2 q (some ⟨b3, 0, none⟩) [a, b] w2 (by simp) (blkInts (hw2.item (.head _)))).mono (fun e w3 h => ⟨h.1, hw2.ext h.2⟩))))
  apply oop; rfl; apply Pev.not; rfl; exact yes
  apply oas; rfl; rfl
  apply OL.nx
  refine W.cond rfl (fun hin => ?_) (fun hin => ?_)
  · have hin : inB G.length a b = false := by simpa using hin
    apply W.sr
    apply oas; rfl; rfl
    apply oas; rfl; rfl
    apply OL.nx
    refine W.rt ?_
    ((with_reducible apply At.fin2); rfl; rfl; rfl; intro w' hw')
    exact ⟨hw'.toExt (by exact mau) (fun k hk => NotOwned.blk (by omega) NotOwned.nil), .inr ⟨by trivial, .inl ⟨hin, rfl⟩⟩⟩
  have hin : inB G.length a b = true := by simpa using hin
  obtain ⟨x, z, rfl, rfl, hx, hz⟩ := inB_true hin
  apply W.skip
  with_reducible apply At.in_normal
  with_reducible apply At.next
  apply W.sr
  apply oop; rfl; apply Pev.load_keptA; rfl; exact yes; exact .head _; rfl; intro hcond; assumption; rfl; intro hcond; assumption; intro hcond; exact NotOwned.au
  apply omv; rfl; rfl
  apply omv; rfl; rfl
  refine OL.callE (α := Bool) (fun r => .bool r) (fun r => r = true ↔ ¬ Rc G (-1) z ∨ Dm G x z) (fun _ => Cls [blk b3 3 [.int .i64 (x : Int), .int .i64 (z : Int)]] [wC, wB, w0, w]) rfl rfl (by exact Args.au) (fun w2 hw2 => (dominates_calls G hGE hG0 o hend (some ⟨bI, 0, none⟩) (some ⟨bP, 0, none⟩) G.length G.length x z w2 (hII.at hw2 (by exact mau) (fun k hk => NotOwned.blk (by omega) NotOwned.nil)) (hIP.at hw2 (by exact mau) (fun k hk => NotOwned.blk (by omega) NotOwned.nil)) (by omega) hz).mono fun e w3 ⟨r, h5, h6, h8⟩ => ⟨r, h5, ?_, hw2.ext h8⟩) ?_
  · rw [h6]
    by_cases h9 : Rc G (-1) z
    · rw [hdm x z h9]
    · simp [h9]
  intro r hr
  apply oas; rfl; rfl
  apply oas; rfl; rfl
  apply OL.nx
  apply W.ret
  ((with_reducible apply At.fin2); rfl; rfl; rfl; intro w' hw')
  exact ⟨hw'.toExt (by exact mau) (fun k hk => NotOwned.blk (by omega) NotOwned.nil), .inr ⟨by trivial, .inr ⟨x, z, r, rfl, rfl, hx, hz, rfl, hr⟩⟩⟩
theorem DClosest_calls (fn : Go.Ss.Fn) (y : FnY) (a b : Int) (w : World) (hfn : FnOk w (low w) fn y) :
    Calls Try.prog 47 [.agg (fnC fn y).toArray, .int .i64 a, .int .i64 b].toArray w fun e w' => Ext w w' ∧ ((funcE fn ≠ 0 ∧ e = .returned (.tuple #[.int .i64 0, .int .i64 (funcE fn)])) ∨ (funcE fn = 0 ∧ ((inB fn.blocks.length a b = false ∧ e = .returned (.tuple #[.int .i64 0, .int .i64 4])) ∨ ∃ (x z : Nat), a = (x : Int) ∧ b = (z : Int) ∧ x < fn.blocks.length ∧ z < fn.blocks.length ∧ ((¬ (Rc (graphB fn.blocks) (-1) x ∧ Rc (graphB fn.blocks) (-1) z) ∧ e = .returned (.tuple #[.int .i64 0, .int .i64 12])) ∨ (Rc (graphB fn.blocks) (-1) x ∧ Rc (graphB fn.blocks) (-1) z ∧ ∃ c : Nat, e = .returned (.tuple #[.int .i64 (c : Int), .int .i64 0]) ∧ Rc (graphB fn.blocks) (-1) c ∧ ∀ d, Dm (graphB fn.blocks) d c ↔ Dm (graphB fn.blocks) d x ∧ Dm (graphB fn.blocks) d z))))) := by
  have hfn0 := hfn
  obtain ⟨nm, bs⟩ := fn
  obtain ⟨q, cap⟩ := y
  have hbl := hfn.bl
  have hF : ∀ (H : List Eng.Item) (S : List World) (w2 : World), Cls H S w2 → w ∈ S → (∀ k, k < w.heap.size → NotOwned H k) → FnOk w2 (low w2) ⟨nm, bs⟩ ⟨q, cap⟩ := fun H S w2 hw2 hs hno => fnR.mono (hw2.up hs) (fnR.stab (hw2.same hs hno) hfn0)
  have hBu := fun w2 (H : List Eng.Item) (S : List World) hw2 hs hno => dbuild_calls ⟨nm, bs⟩ ⟨q, cap⟩ w2 (hF H S w2 hw2 hs hno)
  obtain ⟨er, her⟩ : ∃ er, funcE ⟨nm, bs⟩ = er := ⟨_, rfl⟩
  obtain ⟨G, hG⟩ : ∃ G, graphB bs = G := ⟨_, rfl⟩
  have hGl : G.length = bs.length := by rw [← hG]; simp [graphB]
  simp only [fnC, her, hG, ← hGl] at hBu ⊢
  refine enter Try.func47 rfl Try.ntmps47 rfl (Cls.start w) ?_
  (simp only [argEnv, Nat.zero_add, Nat.reduceAdd])
  apply W.sr
  apply OL.box; rfl; rfl; exact CellsL.agg; (intro bk hbk; simp only [AllLe, and_true] at hbk)
  apply oas; rfl; rfl
  apply oas; rfl; rfl
  apply OL.nsr
  apply oop; rfl; apply Pev.load_blkA; rfl; exact yes; exact .head _; rfl; exact Take.au
  revert bk
  intro b1 hb1x
  have hb1 : w.heap.size ≤ b1 := by first | exact hb1x | exact hb1x.1
  refine OL.frzD (C' := fun w0 => Cls [] [w0, w]) (fun w0 hc0 => (hc0.thin (.any (fun k hk => by rw [show k = b1 from hk]; exact ⟨hb1, trivial⟩) Thin.nil)).note) (fun w0 hc0 => ?_)
  have hb10 : b1 < w0.heap.size := blk_lt (hc0.item (.head _))
  have hw0 : w.heap.size ≤ w0.heap.size := (hc0.kp w (.head _)).size
  have hcF : CellsAt w0 ⟨b1, 0, none⟩ [.int .i64 nm, .slice q G.length cap] := fun j v hj => by
    rw [add_mid, blk_cell (hc0.item (.head _)), Nat.zero_add]
    exact hj
  by_cases hne : er ≠ 0
  · (((first | (with_reducible apply OL.op) | (with_reducible apply QL.op)); (exact Guard.au); rfl; rfl); (exact Pev.call (v := .tuple #[.agg #[.slice none 0 0, .slice none 0 0], .int .i64 er]) rfl (by exact Args.au) (fun _ w2 hw2 => (hBu w2 _ _ hw2 (by exact mau) (fun k hk => NotOwned.nil)).mono (fun e w3 h => ⟨by rcases h.2 with h2 | h2; exact h2.2; exact absurd h2.1 hne, hw2.ext h.1⟩))))
    apply omv; rfl; rfl
    apply oex; rfl; rfl; rfl
    apply oex; rfl; rfl; rfl
    apply OL.alloc; rfl; rfl; exact CellsL.agg; (intro bk hbk; simp only [AllLe, and_true] at hbk)
    apply OL.storeB; rfl; rfl; exact CellsL.agg; rfl; rfl; rfl; exact Swap.au; exact Put.au
    apply oas; rfl; rfl
    apply OL.nx
    apply W.sb
    apply W.sr
    apply omv; rfl; rfl
    apply obn; rfl; rfl; rfl; apply Bin.neq
    apply oas; rfl; rfl
    apply OL.nx
    revert bk
    intro b2 hb2x
    have hb2 : w0.heap.size ≤ b2 := by first | exact hb2x | exact hb2x.1
    skip
    refine W.cond rfl (fun _ => ?_) (fun h => by simp at h; exact absurd h hne)
    apply W.sr
    apply omv; rfl; rfl
    apply oas; rfl; rfl
    apply oas; rfl; rfl
    apply OL.nx
    refine W.rt ?_
    ((with_reducible apply At.fin2); rfl; rfl; rfl; intro w' hw')
    exact ⟨hw'.toExt (by exact mau) (fun k hk => NotOwned.blk (by omega) NotOwned.nil), .inl ⟨hne, rfl⟩⟩
  obtain rfl : er = 0 := Classical.not_not.1 hne
  obtain ⟨h0, h128, hs0⟩ := func_zero her
  simp only at h0 h128 hs0
  have hGE : ∀ l ∈ G, ∀ x ∈ l, 0 ≤ x ∧ x < (G.length : Int) := fun l hl x hx => by
    rw [← hG] at hl
    obtain ⟨b, hb, rfl⟩ := List.mem_map.1 hl
    obtain ⟨e, he, rfl⟩ := List.mem_map.1 hx
    have := shape_edges hs0 b hb e he
    omega
  have hG0 : 0 < G.length := by omega
  have hGn : G.length ≤ 128 := by omega
  have hord := ordOk hGE hG0
  refine OL.callE (α := (Nat × Nat × (Nat → Option Nat)) × World) (fun z => .tuple #[.agg #[.slice (some ⟨z.1.1, 0, none⟩) G.length G.length, .slice (some ⟨z.1.2.1, 0, none⟩) G.length G.length], .int .i64 0]) (fun z => Ext w z.2 ∧ Ext w0 z.2 ∧ IntsO z.2 (low z.2) (tabI G.length fun k => ovI (z.1.2.2 k)) (some ⟨z.1.1, 0, none⟩) ∧ IntsO z.2 (low z.2) (tabI G.length (plc0 G)) (some ⟨z.1.2.1, 0, none⟩) ∧ EndR G (plN G) z.1.2.2 ∧ ∀ a k, Rc G (-1) k → (An z.1.2.2 a k ↔ Dm G a k)) (fun z => Cls [] [z.2, w0, w]) rfl rfl (by exact Args.au) (fun w2 hw2 => (hBu w2 _ _ hw2 (by exact mau) (fun k hk => NotOwned.nil)).mono fun e w3 ⟨h2, h3⟩ => ?_) ?_
  · rcases h3 with ⟨h3, _⟩ | ⟨_, bI, bP, o, h4, h5, h6, h7⟩
    · exact absurd rfl h3
    · have hx := hw2.ext h2
      exact ⟨((bI, bP, o), w3), h4, ⟨hx.toExt (by exact mau) (fun k hk => NotOwned.nil), hx.toExt (by exact mau) (fun k hk => NotOwned.nil), h5.mono (fun k hk => hk.2), h6.mono (fun k hk => hk.2), h7⟩, hx.note⟩
  rintro ⟨⟨bI, bP, o⟩, wB⟩ ⟨hxB, hx0B, hII, hIP, hend, hdm⟩
  simp only at hxB hx0B hII hIP hend hdm ⊢
  have hbIB : bI < wB.heap.size := by
    obtain ⟨a, _, ha, hb, _⟩ := hII.get (i := 0) (by rw [tabI_length]; exact hG0)
    obtain rfl := Option.some.inj ha
    exact hb
  have hbPB : bP < wB.heap.size := by
    obtain ⟨a, _, ha, hb, _⟩ := hIP.get (i := 0) (by rw [tabI_length]; exact hG0)
    obtain rfl := Option.some.inj ha
    exact hb
  have hwB : w0.heap.size ≤ wB.heap.size := hx0B.size
  apply omv; rfl; rfl
  apply oex; rfl; rfl; rfl
  apply oex; rfl; rfl; rfl
  apply OL.alloc; rfl; rfl; exact CellsL.agg; (intro bk hbk; simp only [AllLe, and_true] at hbk)
  apply OL.storeB; rfl; rfl; exact CellsL.agg; rfl; rfl; rfl; exact Swap.au; exact Put.au
  apply oas; rfl; rfl
  apply OL.nx
  apply W.sb
  apply W.sr
  apply omv; rfl; rfl
  apply obn; rfl; rfl; rfl; apply Bin.neq
  apply oas; rfl; rfl
  apply OL.nx
  revert bk
  intro b2 hb2x
  have hb2 : wB.heap.size ≤ b2 := by first | exact hb2x | exact hb2x.1
  refine W.frzD (C' := fun wC => Cls [] [wC, wB, w0, w]) (fun wC hcC => (hcC.thin (.any (fun k hk => by rw [show k = b2 from hk]; exact ⟨hb2, Nat.le_trans hwB hb2, Nat.le_trans (Nat.le_trans hw0 hwB) hb2, trivial⟩) Thin.nil)).note) (fun wC hcC => ?_)
  have hb2C : b2 < wC.heap.size := blk_lt (hcC.item (.head _))
  have hcB : CellsAt wC ⟨b2, 0, none⟩ [.slice (some ⟨bI, 0, none⟩) G.length G.length, .slice (some ⟨bP, 0, none⟩) G.length G.length] := fun j v hj => by
    rw [add_mid, blk_cell (hcC.item (.head _)), Nat.zero_add]
    exact hj
  have hcB0 : wC.cell? ⟨b2, 0 + 0, none⟩ = some (.slice (some ⟨bI, 0, none⟩) G.length G.length) := hcB 0 _ rfl
  have hcB1 : wC.cell? ⟨b2, 0 + 1, none⟩ = some (.slice (some ⟨bP, 0, none⟩) G.length G.length) := hcB 1 _ rfl
  refine W.cond rfl (fun h => by simp at h) (fun _ => ?_)
  apply W.sr
  apply oop; rfl; apply Pev.load_keptA; rfl; exact yes; exact .tail _ (.tail _ (.head _)); rfl; intro hcond; assumption; rfl; intro hcond; assumption; intro hcond; exact NotOwned.au
  apply omv; rfl; rfl
  apply omv; rfl; rfl
  apply OL.buildSlice; rfl; rfl; rfl; exact Elems.au; rfl; rfl; (intro bk hbk; simp only [AllLe, and_true] at hbk)
  revert bk
  intro b3 hb3x
  have hb3 : wC.heap.size ≤ b3 := by first | exact hb3x | exact hb3x.1
  have hwC : wB.heap.size ≤ wC.heap.size := (hcC.kp wB (.head _)).size
  skip
  (((first | (with_reducible apply OL.op) | (with_reducible apply QL.op)); (exact Guard.au); rfl; rfl); (exact Pev.call (v := .bool (inB G.length a b)) rfl (by exact Args.au) (fun _ w2 hw2 => (isBlock_calls nm G.length cap 2 q (some ⟨b3, 0, none⟩) [a, b] w2 (by simp) (blkInts (hw2.item (.head _)))).mono (fun e w3 h => ⟨h.1, hw2.ext h.2⟩))))
  apply oop; rfl; apply Pev.not; rfl; exact yes
  apply oas; rfl; rfl
  apply OL.nx
  refine W.cond rfl (fun hin => ?_) (fun hin => ?_)
  · have hin : inB G.length a b = false := by simpa using hin
    apply W.sr
    apply oas; rfl; rfl
    apply oas; rfl; rfl
    apply OL.nx
    refine W.rt ?_
    ((with_reducible apply At.fin2); rfl; rfl; rfl; intro w' hw')
    exact ⟨hw'.toExt (by exact mau) (fun k hk => NotOwned.blk (by omega) NotOwned.nil), .inr ⟨by trivial, .inl ⟨hin, rfl⟩⟩⟩
  have hin : inB G.length a b = true := by simpa using hin
  obtain ⟨x, z, rfl, rfl, hx, hz⟩ := inB_true hin
  have hpx : ∀ k, Rc G (-1) k → Pr G o k := fun k hk => ⟨hk, by
    by_cases e : k = 0
    · exact .inl e
    · exact .inr (hend.all k hk e)⟩
  obtain ⟨a5, v1, hq1, hab1, hv1, hc1⟩ := hIP.get (show x < (tabI G.length (plc0 G)).length by rw [tabI_length]; exact hx)
  rw [tabI_get hx] at hv1
  obtain rfl := Option.some.inj hv1
  obtain rfl := Option.some.inj hq1
  obtain ⟨a6, v2, hq2, hab2, hv2, hc2⟩ := hIP.get (show z < (tabI G.length (plc0 G)).length by rw [tabI_length]; exact hz)
  rw [tabI_get hz] at hv2
  obtain rfl := Option.some.inj hv2
  obtain rfl := Option.some.inj hq2
  rw [add_mid] at hc1 hc2
  apply W.sr
  apply ofa; rfl; rfl; rfl
  apply oop; rfl; apply Pev.load_kept; rfl; exact yes; exact .head _; rfl; intro hcond; assumption; intro hcond; assumption; intro hcond; exact NotOwned.au
  apply omv; rfl; rfl
  apply oop; rfl; apply Pev.idxB; rfl; exact yes; rfl; exact yes; rfl; intro hcond; omega; rfl
  apply oop; rfl; apply Pev.load_kept; rfl; exact yes; exact .tail _ (.head _); rfl; intro hcond; assumption; intro hcond; assumption; intro hcond; exact NotOwned.au
  apply obn; rfl; rfl; rfl; apply Bin.lss
  apply omv; rfl; rfl
  apply ono; rfl; rfl; rfl; apply Pev.fld; rfl; exact yes; rfl
  apply ono; rfl; rfl; rfl; apply Pev.load_kept; rfl; exact fun h => h; exact .head _; rfl; intro hcond; assumption; intro hcond; assumption; intro hcond; exact NotOwned.au
  apply ono; rfl; rfl; rfl; apply Pev.move; rfl; exact yes
  apply ono; rfl; rfl; rfl; apply Pev.idxB; rfl; exact fun h => h; rfl; exact fun h => h; rfl; intro hcond; omega; rfl
  apply ono; rfl; rfl; rfl; apply Pev.load_kept; rfl; exact fun h => h; exact .tail _ (.head _); rfl; intro hcond; assumption; intro hcond; assumption; intro hcond; exact NotOwned.au
  apply ono; rfl; rfl; rfl; apply Pev.bin; rfl; exact fun h => h; rfl; exact yes; intro hcond; apply Bin.lss
  apply oop; rfl; apply Pev.pick_or; rfl; exact yes; rfl; exact fun h => h
  apply oas; rfl; rfl
  apply OL.nx
  have e1 := plc0_iff hGE hG0 x
  have e2 := plc0_iff hGE hG0 z
  refine W.cond rfl (fun h3 => ?_) (fun h3 => ?_)
  · have hn : ¬ (Rc G (-1) x ∧ Rc G (-1) z) := by
      rintro ⟨h4, h5⟩
      have h6 := e1.2 h4
      have h7 := e2.2 h5
      rcases Bool.or_eq_true _ _ ▸ h3 with h8 | h8
      · have := of_decide_eq_true h8; omega
      · have := of_decide_eq_true h8; omega
    apply W.sr
    apply oas; rfl; rfl
    apply oas; rfl; rfl
    apply OL.nx
    refine W.rt ?_
    ((with_reducible apply At.fin2); rfl; rfl; rfl; intro w' hw')
    exact ⟨hw'.toExt (by exact mau) (fun k hk => NotOwned.blk (by omega) NotOwned.nil), .inr ⟨by trivial, .inr ⟨x, z, rfl, rfl, hx, hz, .inl ⟨hn, rfl⟩⟩⟩⟩
  have hrc : Rc G (-1) x ∧ Rc G (-1) z := by
    rw [← e1, ← e2]
    rw [Bool.or_eq_false_iff, decide_eq_false_iff_not, decide_eq_false_iff_not] at h3
    omega
  apply W.skip
  with_reducible apply At.in_normal
  with_reducible apply At.next
  apply W.sr
  apply oop; rfl; apply Pev.load_keptA; rfl; exact yes; exact .head _; rfl; intro hcond; assumption; rfl; intro hcond; assumption; intro hcond; exact NotOwned.au
  apply omv; rfl; rfl
  apply omv; rfl; rfl
  refine OL.callE (α := Nat) (fun c => .int .i64 (c : Int)) (fun c => Pr G o c ∧ ∀ d, An o d c ↔ An o d x ∧ An o d z) (fun _ => Cls [blk b3 3 [.int .i64 (x : Int), .int .i64 (z : Int)]] [wC, wB, w0, w]) rfl rfl (by exact Args.au) (fun w2 hw2 => (meet_calls G hGE hG0 o hend.w (some ⟨bI, 0, none⟩) (some ⟨bP, 0, none⟩) G.length G.length x z w2 (hII.at hw2 (by exact mau) (fun k hk => NotOwned.blk (by omega) NotOwned.nil)) (hIP.at hw2 (by exact mau) (fun k hk => NotOwned.blk (by omega) NotOwned.nil)) (by omega) (hpx x hrc.1) (hpx z hrc.2)).mono fun e w3 ⟨c, h5, h6, h7, h8⟩ => ⟨c, h5, ⟨h6, h7⟩, hw2.ext h8⟩) ?_
  rintro c ⟨hc, hcd⟩
  apply oas; rfl; rfl
  apply oas; rfl; rfl
  apply OL.nx
  apply W.ret
  ((with_reducible apply At.fin2); rfl; rfl; rfl; intro w' hw')
  exact ⟨hw'.toExt (by exact mau) (fun k hk => NotOwned.blk (by omega) NotOwned.nil), .inr ⟨by trivial, .inr ⟨x, z, rfl, rfl, hx, hz, .inr ⟨hrc.1, hrc.2, c, rfl, hc.1, fun d => by rw [← hdm d c hc.1, ← hdm d x hrc.1, ← hdm d z hrc.2]; exact hcd d⟩⟩⟩⟩
end Go.Proofs.Ytehelljmaiophaa.ss

/- The walk of dom's Frontier. Conditions: none. -/
namespace Go.Ss
set_option linter.unusedVariables false
set_option linter.unusedSimpArgs false
open Go.Eng Go.RowKit
set_option linter.unusedVariables false
set_option linter.unusedSimpArgs false
def InF (G : List (List Int)) (a b : Nat) : Prop := ¬ (Dm G a b ∧ a ≠ b) ∧ ∃ q, Rc G (-1) q ∧ Edge G q b ∧ Dm G a q
open Classical in
noncomputable def frL (G : List (List Int)) (a : Nat) : List Int := ((List.range G.length).filter fun b => decide (Rc G (-1) a ∧ Rc G (-1) b ∧ InF G a b)).map fun b : Nat => (b : Int)
section
variable {G : List (List Int)} {o : Nat → Option Nat} {pl : Nat → Nat}
def FI (P : Nat → Nat → Prop) (f : Nat → List Int) : Prop := ∀ x, (f x).Nodup ∧ ∀ v, v ∈ f x ↔ ∃ y : Nat, v = (y : Int) ∧ P x y
theorem FI.congr {P P' : Nat → Nat → Prop} {f : Nat → List Int} (h : FI P f) (hp : ∀ x y, P' x y ↔ P x y) : FI P' f := fun x => ⟨(h x).1, fun v => ((h x).2 v).trans ⟨fun ⟨y, h1, h2⟩ => ⟨y, h1, (hp x y).2 h2⟩, fun ⟨y, h1, h2⟩ => ⟨y, h1, (hp x y).1 h2⟩⟩⟩
theorem FI.same {P P' : Nat → Nat → Prop} {f : Nat → List Int} {z y0 : Nat} (h : FI P f) (hm : (y0 : Int) ∈ f z) (hp : ∀ x y, P' x y ↔ P x y ∨ (x = z ∧ y = y0)) : FI P' f :=
  h.congr fun x y => by
    rw [hp]
    constructor
    · rintro (h1 | ⟨rfl, rfl⟩)
      · exact h1
      · obtain ⟨y', h1, h2⟩ := ((h x).2 _).1 hm
        obtain rfl : y = y' := by omega
        exact h2
    · exact .inl
theorem FI.add {P P' : Nat → Nat → Prop} {f : Nat → List Int} {z y0 : Nat} (h : FI P f) (hm : (y0 : Int) ∉ f z) (hp : ∀ x y, P' x y ↔ P x y ∨ (x = z ∧ y = y0)) : FI P' (fun k => if k = z then f z ++ [(y0 : Int)] else f k) := fun x => by
  by_cases e : x = z
  · subst e
    dsimp only
    rw [if_pos rfl]
    refine ⟨List.nodup_append.2 ⟨(h x).1, by simp, fun a ha b hb e => ?_⟩, fun v => ?_⟩
    · obtain rfl := List.mem_singleton.1 hb
      exact hm (e ▸ ha)
    · rw [List.mem_append, (h x).2 v, List.mem_singleton]
      constructor
      · rintro (⟨y, h1, h2⟩ | h1)
        · exact ⟨y, h1, (hp x y).2 (.inl h2)⟩
        · exact ⟨y0, h1, (hp x y0).2 (.inr ⟨rfl, rfl⟩)⟩
      · rintro ⟨y, h1, h2⟩
        rcases (hp x y).1 h2 with h3 | ⟨_, rfl⟩
        · exact .inl ⟨y, h1, h3⟩
        · exact .inr h1
  · dsimp only
    rw [if_neg e]
    refine ⟨(h x).1, fun v => ((h x).2 v).trans ⟨fun ⟨y, h1, h2⟩ => ⟨y, h1, (hp x y).2 (.inl h2)⟩, fun ⟨y, h1, h2⟩ => ⟨y, h1, ?_⟩⟩⟩
    rcases (hp x y).1 h2 with h3 | ⟨h3, _⟩
    · exact h3
    · exact absurd h3 e
def PA (G : List (List Int)) (o : Nat → Option Nat) (i x y : Nat) : Prop := ∃ a p, a < i ∧ Rc G (-1) a ∧ Edge G a y ∧ o y = some p ∧ An o x a ∧ ¬ An o x p
def PB (o : Nat → Option Nat) (l : List Int) (a x y : Nat) : Prop := ∃ p, (y : Int) ∈ l ∧ o y = some p ∧ An o x a ∧ ¬ An o x p
def PC (o : Nat → Option Nat) (a y0 z x y : Nat) : Prop := y = y0 ∧ An o x a ∧ ¬ An o x z
theorem PC.start {a y0 x y : Nat} : ¬ PC o a y0 a x y := fun ⟨_, h1, h2⟩ => h2 h1
theorem PC.step (hw : Wf G pl o) {a y0 z z' x y : Nat} (hz : o z = some z') (hza : An o z a) : PC o a y0 z' x y ↔ PC o a y0 z x y ∨ (x = z ∧ y = y0) := by
  unfold PC
  constructor
  · rintro ⟨rfl, h1, h2⟩
    by_cases h3 : An o x z
    · cases h3 with
      | refl => exact .inr ⟨rfl, rfl⟩
      | up h4 r =>
        rw [hz] at h4
        obtain rfl := Option.some.inj h4
        exact absurd r h2
    · exact .inl ⟨rfl, h1, h3⟩
  · rintro (⟨rfl, h1, h2⟩ | ⟨rfl, rfl⟩)
    · exact ⟨rfl, h1, fun h3 => h2 (.up hz h3)⟩
    · refine ⟨rfl, hza, fun h3 => ?_⟩
      have := h3.le hw
      have := (hw.wf _ _ hz).2.2.1
      omega
theorem PB.snoc {l : List Int} {a y0 p x y : Nat} (hp : o y0 = some p) : PB o (l ++ [(y0 : Int)]) a x y ↔ PB o l a x y ∨ PC o a y0 p x y := by
  unfold PB PC
  constructor
  · rintro ⟨p', h1, h2, h3, h4⟩
    rcases List.mem_append.1 h1 with h1 | h1
    · exact .inl ⟨p', h1, h2, h3, h4⟩
    · have h5 := List.mem_singleton.1 h1
      obtain rfl : y = y0 := by omega
      rw [hp] at h2
      obtain rfl := Option.some.inj h2
      exact .inr ⟨rfl, h3, h4⟩
  · rintro (⟨p', h1, h2, h3, h4⟩ | ⟨rfl, h1, h2⟩)
    · exact ⟨p', by simp [h1], h2, h3, h4⟩
    · exact ⟨p, by simp, hp, h1, h2⟩
theorem PA.succ {i x y : Nat} {l : List Int} (hl : G[i]? = some l) (hr : Rc G (-1) i) : PA G o (i + 1) x y ↔ PA G o i x y ∨ PB o l i x y := by
  unfold PA PB
  constructor
  · rintro ⟨a, p, h1, h2, h3, h4⟩
    by_cases e : a = i
    · subst e
      obtain ⟨l', h5, h6⟩ := h3
      rw [hl] at h5
      obtain rfl := Option.some.inj h5
      exact .inr ⟨p, h6, h4⟩
    · exact .inl ⟨a, p, by omega, h2, h3, h4⟩
  · rintro (⟨a, p, h1, h2⟩ | ⟨p, h1, h2⟩)
    · exact ⟨a, p, by omega, h2⟩
    · exact ⟨i, p, by omega, hr, ⟨l, hl, h1⟩, h2⟩
theorem PA.skip {i x y : Nat} (hr : ¬ Rc G (-1) i) : PA G o (i + 1) x y ↔ PA G o i x y := by
  unfold PA
  constructor
  · rintro ⟨a, p, h1, h2, h3⟩
    by_cases e : a = i
    · subst e; exact absurd h2 hr
    · exact ⟨a, p, by omega, h2, h3⟩
  · rintro ⟨a, p, h1, h2⟩
    exact ⟨a, p, by omega, h2⟩
theorem PA.zero {x y : Nat} : ¬ PA G o 0 x y := fun ⟨a, p, h, _⟩ => by omega
theorem pa_done (hord : OrdOk G pl) (he : EndR G pl o) (hd : ∀ a k, Rc G (-1) k → (An o a k ↔ Dm G a k)) (hE : ∀ a b, Edge G a b → b ≠ 0) (x y : Nat) : PA G o G.length x y ↔ Rc G (-1) x ∧ Rc G (-1) y ∧ InF G x y := by
  constructor
  · rintro ⟨a, p, h1, h2, h3, h4, h5, h6⟩
    have hy : Rc G (-1) y := .step h2 h3 (by omega) (hord.rng _ _ h3)
    have hx : Pr G o x := h5.pr he.w ⟨h2, by
      by_cases e : a = 0
      · exact .inl e
      · exact .inr (he.all a h2 e)⟩
    refine ⟨hx.1, hy, ?_, a, h2, h3, (hd x a h2).1 h5⟩
    rintro ⟨h7, h8⟩
    cases (hd x y hy).2 h7 with
    | refl => exact h8 rfl
    | up h9 r =>
      rw [h4] at h9
      obtain rfl := Option.some.inj h9
      exact h6 r
  · rintro ⟨hx, hy, h1, q, h2, h3, h4⟩
    obtain ⟨p, hp⟩ := Option.isSome_iff_exists.1 (he.all y hy (hE _ _ h3))
    refine ⟨q, p, h2.lt, h2, h3, hp, (hd x q h2).2 h4, fun h5 => h1 ⟨(hd x y hy).1 (.up hp h5), fun e => ?_⟩⟩
    subst e
    have := h5.le he.w
    have := (he.w.wf _ _ hp).2.2.1
    omega
theorem lt_of_nodup : ∀ {l : List Int}, l.Pairwise (· ≤ ·) → l.Nodup → l.Pairwise (· < ·)
  | [], _, _ => .nil
  | x :: l, h, hn => by
    obtain ⟨h1, h2⟩ := List.pairwise_cons.1 h
    obtain ⟨h3, h4⟩ := List.nodup_cons.1 hn
    refine .cons (fun y hy => ?_) (lt_of_nodup h2 h4)
    have := h1 y hy
    rcases Int.lt_or_eq_of_le this with h5 | h5
    · exact h5
    · exact absurd (h5 ▸ hy) h3
theorem frL_sorted (a : Nat) : (frL G a).Pairwise (· < ·) := by
  unfold frL
  rw [List.pairwise_map]
  exact (List.Pairwise.filter _ List.pairwise_lt_range).imp fun h => by omega
theorem frL_mem (a : Nat) (v : Int) : v ∈ frL G a ↔ ∃ y : Nat, v = (y : Int) ∧ Rc G (-1) a ∧ Rc G (-1) y ∧ InF G a y := by
  unfold frL
  simp only [List.mem_map, List.mem_filter, List.mem_range, decide_eq_true_eq]
  constructor
  · rintro ⟨y, ⟨_, h1⟩, h2⟩
    exact ⟨y, h2.symm, h1⟩
  · rintro ⟨y, h1, h2⟩
    exact ⟨y, ⟨h2.2.1.lt, h2⟩, h1.symm⟩
theorem fr_done (hord : OrdOk G pl) (he : EndR G pl o) (hd : ∀ a k, Rc G (-1) k → (An o a k ↔ Dm G a k)) (hE : ∀ a b, Edge G a b → b ≠ 0) {f : Nat → List Int} (hf : FI (PA G o G.length) f) (k : Nat) : isrt (f k) = frL G k := by
  refine sorted_eq (lt_of_nodup (isrt_sorted _) ((isrt_perm _).symm.nodup (hf k).1)) (frL_sorted k) fun v => ?_
  rw [isrt_mem, (hf k).2, frL_mem]
  constructor
  · rintro ⟨y, h1, h2⟩
    exact ⟨y, h1, (pa_done hord he hd hE k y).1 h2⟩
  · rintro ⟨y, h1, h2⟩
    exact ⟨y, h1, (pa_done hord he hd hE k y).2 h2⟩
theorem FI.len {P : Nat → Nat → Prop} {f : Nat → List Int} {n : Nat} (h : FI P f) (hP : ∀ x y, P x y → y < n) (x : Nat) : (f x).length ≤ n := by
  have := nodup_le (h x).1 (l := f x) (m := (List.range n).map fun k : Nat => (k : Int)) fun v hv => by
    obtain ⟨y, rfl, h2⟩ := ((h x).2 v).1 hv
    exact List.mem_map.2 ⟨y, List.mem_range.2 (hP x y h2), rfl⟩
  simpa using this
end
end Go.Ss
namespace Go.Proofs.Ytehelljmaiophaa.ss
set_option linter.unusedVariables false
set_option linter.unusedSimpArgs false
set_option maxRecDepth 100000
open Go.Eng Go.RowKit Go.Ss
set_option linter.unusedVariables false
set_option linter.unusedSimpArgs false
theorem DFrontier_calls (fn : Go.Ss.Fn) (y : FnY) (w : World) (hfn : FnOk w (low w) fn y) :
    Calls Try.prog 43 [.agg (fnC fn y).toArray].toArray w fun e w' => Ext w w' ∧ ((funcE fn ≠ 0 ∧ e = .returned (.tuple #[.slice none 0 0, .int .i64 (funcE fn)])) ∨ (funcE fn = 0 ∧ ∃ bO : Nat, e = .returned (.tuple #[.slice (some ⟨bO, 0, none⟩) fn.blocks.length fn.blocks.length, .int .i64 0]) ∧ bO < w'.heap.size ∧ ∀ k : Nat, k < fn.blocks.length → ∃ (q : Option Addr) (c : Nat), w'.cell? ⟨bO, k, none⟩ = some (.slice q (frL (graphB fn.blocks) k).length c) ∧ IntsO w' (low w') (frL (graphB fn.blocks) k) q)) := by
  have hfn0 := hfn
  obtain ⟨nm, bs⟩ := fn
  obtain ⟨q, cap⟩ := y
  have hbl := hfn.bl
  have hF : ∀ (H : List Eng.Item) (S : List World) (w2 : World), Cls H S w2 → w ∈ S → (∀ k, k < w.heap.size → NotOwned H k) → FnOk w2 (low w2) ⟨nm, bs⟩ ⟨q, cap⟩ := fun H S w2 hw2 hs hno => fnR.mono (hw2.up hs) (fnR.stab (hw2.same hs hno) hfn0)
  have hBu := fun w2 (H : List Eng.Item) (S : List World) hw2 hs hno => dbuild_calls ⟨nm, bs⟩ ⟨q, cap⟩ w2 (hF H S w2 hw2 hs hno)
  obtain ⟨er, her⟩ : ∃ er, funcE ⟨nm, bs⟩ = er := ⟨_, rfl⟩
  obtain ⟨G, hG⟩ : ∃ G, graphB bs = G := ⟨_, rfl⟩
  have hGl : G.length = bs.length := by rw [← hG]; simp [graphB]
  simp only [fnC, her, hG, ← hGl] at hBu ⊢
  refine enter Try.func43 rfl Try.ntmps43 rfl (Cls.start w) ?_
  (simp only [argEnv, Nat.zero_add, Nat.reduceAdd])
  apply W.sr
  apply OL.box; rfl; rfl; exact CellsL.agg; (intro bk hbk; simp only [AllLe, and_true] at hbk)
  apply oas; rfl; rfl
  apply oas; rfl; rfl
  apply OL.nsr
  apply oop; rfl; apply Pev.load_blkA; rfl; exact yes; exact .head _; rfl; exact Take.au
  revert bk
  intro b1 hb1x
  have hb1 : w.heap.size ≤ b1 := by first | exact hb1x | exact hb1x.1
  refine OL.frzD (C' := fun w0 => Cls [] [w0, w]) (fun w0 hc0 => (hc0.thin (.any (fun k hk => by rw [show k = b1 from hk]; exact ⟨hb1, trivial⟩) Thin.nil)).note) (fun w0 hc0 => ?_)
  have hb10 : b1 < w0.heap.size := blk_lt (hc0.item (.head _))
  have hw0 : w.heap.size ≤ w0.heap.size := (hc0.kp w (.head _)).size
  have hcF : CellsAt w0 ⟨b1, 0, none⟩ [.int .i64 nm, .slice q G.length cap] := fun j v hj => by
    rw [add_mid, blk_cell (hc0.item (.head _)), Nat.zero_add]
    exact hj
  by_cases hne : er ≠ 0
  · (((first | (with_reducible apply OL.op) | (with_reducible apply QL.op)); (exact Guard.au); rfl; rfl); (exact Pev.call (v := .tuple #[.agg #[.slice none 0 0, .slice none 0 0], .int .i64 er]) rfl (by exact Args.au) (fun _ w2 hw2 => (hBu w2 _ _ hw2 (by exact mau) (fun k hk => NotOwned.nil)).mono (fun e w3 h => ⟨by rcases h.2 with h2 | h2; exact h2.2; exact absurd h2.1 hne, hw2.ext h.1⟩))))
    apply omv; rfl; rfl
    apply oex; rfl; rfl; rfl
    apply oex; rfl; rfl; rfl
    apply OL.alloc; rfl; rfl; exact CellsL.agg; (intro bk hbk; simp only [AllLe, and_true] at hbk)
    apply OL.storeB; rfl; rfl; exact CellsL.agg; rfl; rfl; rfl; exact Swap.au; exact Put.au
    apply oas; rfl; rfl
    apply OL.nx
    apply W.seq
    apply W.sr
    apply omv; rfl; rfl
    apply obn; rfl; rfl; rfl; apply Bin.neq
    apply OL.nx
    revert bk
    intro b2 hb2x
    have hb2 : w0.heap.size ≤ b2 := by first | exact hb2x | exact hb2x.1
    skip
    refine W.cond rfl (fun _ => ?_) (fun h => by simp at h; exact absurd h hne)
    apply W.sr
    apply omv; rfl; rfl
    apply oas; rfl; rfl
    apply oas; rfl; rfl
    apply OL.nx
    refine W.rt ?_
    ((with_reducible apply At.fin2); rfl; rfl; rfl; intro w' hw')
    exact ⟨hw'.toExt (by exact mau) (fun k hk => NotOwned.blk (by omega) NotOwned.nil), .inl ⟨hne, rfl⟩⟩
  obtain rfl : er = 0 := Classical.not_not.1 hne
  obtain ⟨h0, h128, hs0⟩ := func_zero her
  simp only at h0 h128 hs0
  have hGE : ∀ l ∈ G, ∀ x ∈ l, 0 ≤ x ∧ x < (G.length : Int) := fun l hl x hx => by
    rw [← hG] at hl
    obtain ⟨b, hb, rfl⟩ := List.mem_map.1 hl
    obtain ⟨e, he, rfl⟩ := List.mem_map.1 hx
    have := shape_edges hs0 b hb e he
    omega
  have hG0 : 0 < G.length := by omega
  have hGn : G.length ≤ 128 := by omega
  have hord := ordOk hGE hG0
  refine OL.callE (α := (Nat × Nat × (Nat → Option Nat)) × World) (fun z => .tuple #[.agg #[.slice (some ⟨z.1.1, 0, none⟩) G.length G.length, .slice (some ⟨z.1.2.1, 0, none⟩) G.length G.length], .int .i64 0]) (fun z => Ext w z.2 ∧ Ext w0 z.2 ∧ IntsO z.2 (low z.2) (tabI G.length fun k => ovI (z.1.2.2 k)) (some ⟨z.1.1, 0, none⟩) ∧ IntsO z.2 (low z.2) (tabI G.length (plc0 G)) (some ⟨z.1.2.1, 0, none⟩) ∧ EndR G (plN G) z.1.2.2 ∧ ∀ a k, Rc G (-1) k → (An z.1.2.2 a k ↔ Dm G a k)) (fun z => Cls [] [z.2, w0, w]) rfl rfl (by exact Args.au) (fun w2 hw2 => (hBu w2 _ _ hw2 (by exact mau) (fun k hk => NotOwned.nil)).mono fun e w3 ⟨h2, h3⟩ => ?_) ?_
  · rcases h3 with ⟨h3, _⟩ | ⟨_, bI, bP, o, h4, h5, h6, h7⟩
    · exact absurd rfl h3
    · have hx := hw2.ext h2
      exact ⟨((bI, bP, o), w3), h4, ⟨hx.toExt (by exact mau) (fun k hk => NotOwned.nil), hx.toExt (by exact mau) (fun k hk => NotOwned.nil), h5.mono (fun k hk => hk.2), h6.mono (fun k hk => hk.2), h7⟩, hx.note⟩
  rintro ⟨⟨bI, bP, o⟩, wB⟩ ⟨hxB, hx0B, hII, hIP, hend, hdm⟩
  simp only at hxB hx0B hII hIP hend hdm ⊢
  have hbIB : bI < wB.heap.size := by
    obtain ⟨a, _, ha, hb, _⟩ := hII.get (i := 0) (by rw [tabI_length]; exact hG0)
    obtain rfl := Option.some.inj ha
    exact hb
  have hbPB : bP < wB.heap.size := by
    obtain ⟨a, _, ha, hb, _⟩ := hIP.get (i := 0) (by rw [tabI_length]; exact hG0)
    obtain rfl := Option.some.inj ha
    exact hb
  have hwB : w0.heap.size ≤ wB.heap.size := hx0B.size
  apply omv; rfl; rfl
  apply oex; rfl; rfl; rfl
  apply oex; rfl; rfl; rfl
  apply OL.alloc; rfl; rfl; exact CellsL.agg; (intro bk hbk; simp only [AllLe, and_true] at hbk)
  apply OL.storeB; rfl; rfl; exact CellsL.agg; rfl; rfl; rfl; exact Swap.au; exact Put.au
  apply oas; rfl; rfl
  apply OL.nx
  apply W.seq
  apply W.sr
  apply omv; rfl; rfl
  apply obn; rfl; rfl; rfl; apply Bin.neq
  apply OL.nx
  revert bk
  intro b2 hb2x
  have hb2 : wB.heap.size ≤ b2 := by first | exact hb2x | exact hb2x.1
  refine W.frzD (C' := fun wC => Cls [] [wC, wB, w0, w]) (fun wC hcC => (hcC.thin (.any (fun k hk => by rw [show k = b2 from hk]; exact ⟨hb2, Nat.le_trans hwB hb2, Nat.le_trans (Nat.le_trans hw0 hwB) hb2, trivial⟩) Thin.nil)).note) (fun wC hcC => ?_)
  have hb2C : b2 < wC.heap.size := blk_lt (hcC.item (.head _))
  have hcB : CellsAt wC ⟨b2, 0, none⟩ [.slice (some ⟨bI, 0, none⟩) G.length G.length, .slice (some ⟨bP, 0, none⟩) G.length G.length] := fun j v hj => by
    rw [add_mid, blk_cell (hcC.item (.head _)), Nat.zero_add]
    exact hj
  have hcB0 : wC.cell? ⟨b2, 0 + 0, none⟩ = some (.slice (some ⟨bI, 0, none⟩) G.length G.length) := hcB 0 _ rfl
  have hcB1 : wC.cell? ⟨b2, 0 + 1, none⟩ = some (.slice (some ⟨bP, 0, none⟩) G.length G.length) := hcB 1 _ rfl
  refine W.cond rfl (fun h => by simp at h) (fun _ => ?_)
  obtain ⟨es, hes, he⟩ := hfn0.b
  simp only at hes he hbl
  have hGes : G.length = es.length := by rw [hGl, ← hes, List.length_map]
  have hcF1 : w0.cell? ⟨b1, 0 + 1, none⟩ = some (.slice q G.length cap) := hcF 1 _ rfl
  have hE0 : ∀ a b, Go.Ss.Edge G a b → b ≠ 0 := fun a b ⟨l, h1, h2⟩ => by
    rw [← hG] at h1
    obtain ⟨bk, hbk, rfl⟩ := List.mem_map.1 (List.mem_of_getElem? h1)
    obtain ⟨e, he, h3⟩ := List.mem_map.1 h2
    have := shape_edges hs0 bk hbk e he
    omega
  apply W.sk
  apply W.sr
  apply ofa; rfl; rfl; rfl
  apply oop; rfl; apply Pev.load_kept; rfl; exact yes; exact .tail _ (.tail _ (.head _)); rfl; intro hcond; assumption; intro hcond; assumption; intro hcond; exact NotOwned.au
  apply oop; rfl; apply Pev.len_slice; rfl; exact yes; rfl
  apply OL.makeSlice; rfl; rfl; rfl; rfl; rfl; rfl; rfl; omega; (intro bk hbk; simp only [AllLe, and_true] at hbk)
  apply oas; rfl; rfl
  apply OL.nx
  apply W.seq
  apply W.sr
  apply ofa; rfl; rfl; rfl
  apply oop; rfl; apply Pev.load_kept; rfl; exact yes; exact .tail _ (.tail _ (.head _)); rfl; intro hcond; assumption; intro hcond; assumption; intro hcond; exact NotOwned.au
  apply oop; rfl; apply Pev.len_slice; rfl; exact yes; rfl
  apply omv; rfl; rfl
  apply OL.nx
  apply W.block
  revert bk
  intro bO hbOx
  have hbO : wC.heap.size ≤ bO := by first | exact hbOx | exact hbOx.1
  have hwC : wB.heap.size ≤ wC.heap.size := (hcC.kp wB (.head _)).size
  have hA : ∀ b, wC.heap.size ≤ b → AllLe [wC, wB, w0, w] b := fun b hb => ⟨hb, Nat.le_trans hwC hb, Nat.le_trans (Nat.le_trans hwB hwC) hb, Nat.le_trans (Nat.le_trans (Nat.le_trans hw0 hwB) hwC) hb, trivial⟩
  have hwBC : Ext wB wC := hcC.toExt (.head _) (fun k hk => NotOwned.blk (by omega) NotOwned.nil)
  have hedge : ∀ x y, PA G o G.length x y → y < G.length := fun x y ⟨a, p, _, _, h, _⟩ => hord.rng _ _ h
  rw [slC_zero]
  refine W.loop (G := Nat × List Rw) (fun g => g.1 ≤ G.length ∧ ∃ f, RwsOf g.2 G.length f ∧ FI (PA G o g.1) f) (fun g => G.length - g.1)
    (fun g => [(4, true, .pointer (some ⟨b2, 0, none⟩)), (6, true, .slice (some ⟨bO, 0, none⟩) G.length G.length), (27, true, .slice q G.length cap), (28, true, .int .i64 (G.length : Int)), (29, true, .int .i64 (g.1 : Int))])
    (fun g => Cls [rws wC.heap.size 3 1 (fun j => g.2[j]?), blk bO 35 (g.2.map slC)] [wC, wB, w0, w]) (0, List.replicate G.length ⟨fun _ => False, none, 0, 0, []⟩)
    ⟨by simp, fun _ => [], ⟨by simp, fun k r hr => by rw [(List.mem_replicate.1 (List.mem_of_getElem? hr)).2]; exact ⟨rfl, rfl⟩⟩, fun x => ⟨by simp, fun v => ⟨fun h => by simp at h, fun ⟨y, _, h⟩ => absurd h PA.zero⟩⟩⟩ (by exact Sub.au) (fun w' hw' => hw'.rws_new wC.heap.size 3 1 G.length) ?_
  rintro ⟨i, L⟩ ⟨hi, f, hL, hf⟩
  simp only at hi hL hf ⊢
  have hLl := hL.1
  apply W.sr
  apply obn; rfl; rfl; rfl; apply Bin.lss
  apply OL.nx
  apply W.seq
  (refine W.cnd (fun hlt => ?_) (fun hlt => ?_)) <;> (try (exfalso; first | omega | exact hlt trivial | contradiction))
  · have hil : i < es.length := by omega
    obtain ⟨a, p, hqa, hab, hp, hcell, hok⟩ := he.get hil
    have hab : a.block < w.heap.size := hab
    have hcell : CellsAt w (a.add (i * 7)) [.slice p.2.p.1 p.1.params.length p.2.p.2, .slice p.2.i.1 p.1.ins.length p.2.i.2, .int .i64 p.1.term.kind, .int .i64 p.1.term.arg, .int .i64 p.1.term.n, .slice p.2.t.c.1 p.1.term.cases.length p.2.t.c.2, .slice p.2.t.t.1 p.1.term.to_.length p.2.t.t.2] := hcell
    obtain ⟨ts, hts, harr⟩ := hok.t.t
    have htl2 : p.1.term.to_.length = ts.length := by rw [← hts, List.length_map]
    have hbm : bs[i]? = some p.1 := by rw [← hes]; simp [hp]
    have htl3 := to_len hs0 (List.mem_of_getElem? hbm)
    obtain ⟨l, hl⟩ : ∃ l, p.1.term.to_.map Ed.block = l := ⟨_, rfl⟩
    have hGi : G[i]? = some l := by rw [← hG, ← hl]; simp [graphB, hbm]
    have hll : l.length = ts.length := by rw [← hl, List.length_map, htl2]
    rw [hqa]
    apply W.sk
    apply W.sb
    apply W.sr
    apply omv; rfl; rfl
    apply oop; rfl; apply Pev.idx; rfl; exact yes; rfl; exact yes; rfl; rfl; intro hcond; omega
    apply oop; rfl; apply Pev.load_keptA; rfl; exact yes; exact .tail _ (.tail _ (.tail _ (.head _))); rfl; intro hcond; assumption; rfl; intro hcond; (rw [add_block]; assumption); intro hcond; (focus ((try simp only [add_block]); (repeat (first | exact NotOwned.nil | exact hno _ (by omega) | refine NotOwned.blk (by omega) ?_ | refine NotOwned.row (by omega) ?_ | refine NotOwned.rws (by omega) ?_ | refine NotOwned.pile (by omega) ?_)); done))
    apply OL.alloc; rfl; rfl; exact CellsL.agg; (intro bk hbk; simp only [AllLe, and_true] at hbk)
    apply oas; rfl; rfl
    apply OL.storeB; rfl; rfl; exact CellsL.agg; rfl; rfl; rfl; exact Swap.au; exact Put.au
    apply OL.nx
    apply W.seq
    apply W.sr
    apply ofa; rfl; rfl; rfl
    apply oop; rfl; apply Pev.load_kept; rfl; exact yes; exact .head _; rfl; intro hcond; assumption; intro hcond; assumption; intro hcond; (focus ((try simp only [add_block]); (repeat (first | exact NotOwned.nil | exact hno _ (by omega) | refine NotOwned.blk (by omega) ?_ | refine NotOwned.row (by omega) ?_ | refine NotOwned.rws (by omega) ?_ | refine NotOwned.pile (by omega) ?_)); done))
    apply omv; rfl; rfl
    apply oop; rfl; apply Pev.idxB; rfl; exact yes; rfl; exact yes; rfl; intro hcond; omega; rfl
    revert bk
    intro b8 hb8x
    have hb8 : wC.heap.size ≤ b8 := by first | exact hb8x | exact hb8x.1
    obtain ⟨a5, v5, hq5, hab5, hv5, hc5⟩ := hIP.get (show i < (tabI G.length (plc0 G)).length by rw [tabI_length]; omega)
    rw [tabI_get (by omega)] at hv5
    obtain rfl := Option.some.inj hv5
    obtain rfl := Option.some.inj hq5
    rw [add_mid] at hc5
    have e5 := plc0_iff hGE hG0 i
    apply oop; rfl; apply Pev.load_kept; rfl; exact yes; exact .tail _ (.head _); rfl; intro hcond; assumption; intro hcond; assumption; intro hcond; (focus ((try simp only [add_block]); (repeat (first | exact NotOwned.nil | exact hno _ (by omega) | refine NotOwned.blk (by omega) ?_ | refine NotOwned.row (by omega) ?_ | refine NotOwned.rws (by omega) ?_ | refine NotOwned.pile (by omega) ?_)); done))
    apply obn; rfl; rfl; rfl; apply Bin.lss
    apply OL.nx
    (refine W.cnd (fun hpl => ?_) (fun hpl => ?_)) <;> (try (exfalso; first | omega | exact hpl trivial | contradiction))
    · have hnr : ¬ Rc G (-1) i := by rw [← e5]; omega
      refine W.xt ?_
      with_reducible apply At.next
      apply W.reg
      apply obn; rfl; rfl; rfl; apply Bin.add_in; omega
      apply omv; rfl; rfl
      apply OL.nil
      refine At.again (i + 1, L) ⟨by simp only; omega, f, hL, hf.congr fun x y => PA.skip hnr⟩ (by simp only; omega) (by exact Sub.au) (fun w' hw' => hw'.thin (.any (fun k hk => by rw [show k = b8 from hk]; exact hA b8 hb8) (.keep (.keep Thin.nil))))
    have hri : Rc G (-1) i := by rw [← e5]; omega
    apply W.sk
    apply W.sr
    apply ofa; rfl; rfl; rfl
    apply ofa; rfl; rfl; rfl
    apply old; rfl; rfl; exact .head _; rfl; rfl
    apply oop; rfl; apply Pev.len_slice; rfl; exact yes; rfl
    apply omv; rfl; rfl
    apply OL.nx
    apply W.block
    rw [htl2]
    refine W.loop (G := Nat × List Rw) (fun g => g.1 ≤ ts.length ∧ ∃ f, RwsOf g.2 G.length f ∧ FI (fun x y => PA G o i x y ∨ PB o (l.take g.1) i x y) f) (fun g => ts.length - g.1)
      (fun g => [(4, true, .pointer (some ⟨b2, 0, none⟩)), (6, true, .slice (some ⟨bO, 0, none⟩) G.length G.length), (7, true, .int .i64 (i : Int)), (27, true, .slice (some a) G.length cap), (28, true, .int .i64 (G.length : Int)), (29, true, .int .i64 (i : Int)), (42, true, .slice p.2.t.t.1 ts.length p.2.t.t.2), (43, true, .int .i64 (ts.length : Int)), (44, true, .int .i64 (g.1 : Int))])
      (fun g => Cls [rws wC.heap.size 3 1 (fun j => g.2[j]?), blk bO 35 (g.2.map slC)] [wC, wB, w0, w]) (0, L)
      ⟨by simp, f, hL, hf.congr fun x y => by simp [PB]⟩ (by exact Sub.au) (fun w' hw' => hw'.thin (.any (fun k hk => by rw [show k = b8 from hk]; exact hA b8 hb8) (.keep (.keep Thin.nil)))) ?_
    clear hLl hf hL
    rintro ⟨j, L⟩ ⟨hj, f, hL, hf⟩
    simp only at hj hL hf ⊢
    apply W.sr
    apply obn; rfl; rfl; rfl; apply Bin.lss
    apply OL.nx
    apply W.seq
    (refine W.cnd (fun hlt2 => ?_) (fun hlt2 => ?_)) <;> (try (exfalso; first | omega | exact hlt2 trivial | contradiction))
    · have hjl : j < ts.length := by omega
      obtain ⟨ae, u, hqt, hatb, hu, hcu, hoku⟩ := harr.get hjl
      have hatb : ae.block < w.heap.size := hatb
      have hcu : CellsAt w (ae.add (j * 2)) [.int .i64 u.1.block, .slice u.2.1 u.1.args.length u.2.2] := hcu
      have hlj : l[j]? = some u.1.block := by rw [← hl, ← hts]; simp [hu]
      obtain ⟨y0, hy0⟩ : ∃ y0 : Nat, u.1.block = (y0 : Int) := ⟨u.1.block.toNat, by have := hGE l (List.mem_of_getElem? hGi) u.1.block (List.mem_of_getElem? hlj); omega⟩
      rw [hy0] at hcu hlj
      have hey : Go.Ss.Edge G i y0 := ⟨l, hGi, List.mem_of_getElem? hlj⟩
      have hyr : Rc G (-1) y0 := .step hri hey (by omega) (hord.rng _ _ hey)
      have hyl := hyr.lt
      obtain ⟨p0, hp0⟩ := Option.isSome_iff_exists.1 (hend.all y0 hyr (hE0 _ _ hey))
      have hp0i : An o p0 i := by
        have h1 := (hdm p0 y0 hyr).1 (An.one hp0)
        have h2 := (hend.w.wf _ _ hp0).2.2.1
        exact (hdm p0 i hri).2 (h1.pred (fun e => by rw [e] at h2; omega) hyr hey)
      have htk : l.take (j + 1) = l.take j ++ [(y0 : Int)] := by rw [List.take_add_one, hlj]; rfl
      obtain ⟨a6, v6, hq6, hab6, hv6, hc6⟩ := hII.get (show y0 < (tabI G.length fun k => ovI (o k)).length by rw [tabI_length]; exact hyr.lt)
      rw [tabI_get hyr.lt, hp0] at hv6
      obtain rfl := Option.some.inj hv6
      obtain rfl := Option.some.inj hq6
      rw [add_mid, ovI_some] at hc6
      rw [hqt]
      apply W.sk
      apply W.sb
      apply W.sr
      apply oop; rfl; apply Pev.idx; rfl; exact yes; rfl; exact yes; rfl; rfl; intro hcond; omega
      apply oop; rfl; apply Pev.load_keptA; rfl; exact yes; exact .tail _ (.tail _ (.tail _ (.head _))); rfl; intro hcond; assumption; rfl; intro hcond; (rw [add_block]; assumption); intro hcond; (focus ((try simp only [add_block]); (repeat (first | exact NotOwned.nil | exact hno _ (by omega) | refine NotOwned.blk (by omega) ?_ | refine NotOwned.row (by omega) ?_ | refine NotOwned.rws (by omega) ?_ | refine NotOwned.pile (by omega) ?_)); done))
      apply OL.alloc; rfl; rfl; exact CellsL.agg; (intro bk hbk; simp only [AllLe, and_true] at hbk)
      apply OL.storeB; rfl; rfl; exact CellsL.agg; rfl; rfl; rfl; exact Swap.au; exact Put.au
      apply OL.nsr
      apply omv; rfl; rfl
      apply oas; rfl; rfl
      apply OL.nx
      apply W.block
      revert bk
      intro b10 hb10x
      have hb10 : wC.heap.size ≤ b10 := by first | exact hb10x | exact hb10x.1
      skip
      refine W.loop (G := Nat × List Rw) (fun g => (An o g.1 i ∧ An o p0 g.1) ∧ ∃ f, RwsOf g.2 G.length f ∧ FI (fun x y => (PA G o i x y ∨ PB o (l.take j) i x y) ∨ PC o i y0 g.1 x y) f) (fun g => plN G g.1)
        (fun g => [(4, true, .pointer (some ⟨b2, 0, none⟩)), (6, true, .slice (some ⟨bO, 0, none⟩) G.length G.length), (7, true, .int .i64 (i : Int)), (10, true, .pointer (some ⟨b10, 0, none⟩)), (11, true, .int .i64 (g.1 : Int)), (27, true, .slice (some a) G.length cap), (28, true, .int .i64 (G.length : Int)), (29, true, .int .i64 (i : Int)), (42, true, .slice (some ae) ts.length p.2.t.t.2), (43, true, .int .i64 (ts.length : Int)), (44, true, .int .i64 (j : Int))])
        (fun g => Cls [rws wC.heap.size 3 1 (fun j => g.2[j]?), blk b10 105 [.int .i64 (y0 : Int), .slice u.2.1 u.1.args.length u.2.2], blk bO 35 (g.2.map slC)] [wC, wB, w0, w]) (i, L)
        ⟨⟨.refl, hp0i⟩, f, hL, hf.congr fun x y => ⟨fun h => h.resolve_right PC.start, .inl⟩⟩ (by exact Sub.au) (fun w' hw' => hw'.flip) ?_
      clear hf hL
      rintro ⟨z, L⟩ ⟨⟨hzi, hpz⟩, f, hL, hf⟩
      simp only at hzi hpz hL hf ⊢
      apply W.seq
      apply W.sr
      apply omv; rfl; rfl
      apply obn; rfl; rfl; rfl; apply Bin.geq
      apply omv; rfl; rfl
      apply oy; rfl; rfl; rfl; apply Pev.move; rfl; exact yes
      apply oy; rfl; rfl; rfl; apply Pev.fld; rfl; exact yes; rfl
      apply oy; rfl; rfl; rfl; apply Pev.load_kept; rfl; exact yes; exact .head _; rfl; intro hcond; assumption; intro hcond; assumption; intro hcond; (focus ((try simp only [add_block]); (repeat (first | exact NotOwned.nil | exact hno _ (by omega) | refine NotOwned.blk (by omega) ?_ | refine NotOwned.row (by omega) ?_ | refine NotOwned.rws (by omega) ?_ | refine NotOwned.pile (by omega) ?_)); done))
      apply oy; rfl; rfl; rfl; apply Pev.fld; rfl; exact yes; rfl
      apply oy; rfl; rfl; rfl; apply Pev.load_blk; rfl; exact yes; exact .tail _ (.head _); rfl; rfl
      apply oy; rfl; rfl; rfl; apply Pev.idxB; rfl; exact yes; rfl; exact yes; rfl; intro hcond; omega; rfl
      apply oy; rfl; rfl; rfl; apply Pev.load_kept; rfl; exact yes; exact .tail _ (.head _); rfl; intro hcond; assumption; intro hcond; assumption; intro hcond; (focus ((try simp only [add_block]); (repeat (first | exact NotOwned.nil | exact hno _ (by omega) | refine NotOwned.blk (by omega) ?_ | refine NotOwned.row (by omega) ?_ | refine NotOwned.rws (by omega) ?_ | refine NotOwned.pile (by omega) ?_)); done))
      apply oy; rfl; rfl; rfl; apply Pev.bin; rfl; exact yes; rfl; exact yes; intro hcond; apply Bin.neq
      apply oop; rfl; apply Pev.pick_and; rfl; exact yes; rfl; exact yes
      apply OL.nx
      refine W.cond rfl (fun h3 => ?_) (fun h3 => ?_)
      · have hzp : z ≠ p0 := fun e => by rw [e] at h3; simp at h3
        obtain ⟨z', hoz, hpz'⟩ : ∃ z', o z = some z' ∧ An o p0 z' := by
          cases hpz with
          | refl => exact absurd rfl hzp
          | up h4 r => exact ⟨_, h4, r⟩
        obtain ⟨hzr, hz'r, hzl', _⟩ := hend.w.wf _ _ hoz
        have hzl := hzr.lt
        obtain ⟨a7, v7, hq7, hab7, hv7, hc7⟩ := hII.get (show z < (tabI G.length fun k => ovI (o k)).length by rw [tabI_length]; exact hzl)
        rw [tabI_get hzl, hoz] at hv7
        obtain rfl := Option.some.inj hv7
        obtain rfl := Option.some.inj hq7
        rw [add_mid, ovI_some] at hc7
        obtain ⟨⟨Or, qr, mr, cr, xr⟩, hr⟩ : ∃ r, L[z]? = some r := ⟨_, List.getElem?_eq_getElem (by rw [hL.1]; exact hzl)⟩
        obtain ⟨hrx, hrm⟩ := hL.2 z _ hr
        simp only at hrx hrm
        subst hrx hrm
        have hlen : (f z).length ≤ G.length := hf.len (fun x y hxy => by
          rcases hxy with (⟨a, p, _, _, h, _⟩ | ⟨p, h, _⟩) | ⟨rfl, _⟩
          · exact hord.rng _ _ h
          · exact hord.rng _ _ ⟨l, hGi, List.mem_of_mem_take h⟩
          · exact hyl) z
        have hrv : (L.map slC)[0 + (z : Int).toNat * 1]? = some (.slice qr (f z).length cr) := by
          rw [show 0 + (z : Int).toNat * 1 = z by omega, List.getElem?_map, hr]
          rfl
        have hstep : ∀ x y, ((PA G o i x y ∨ PB o (l.take j) i x y) ∨ PC o i y0 z' x y) ↔ ((PA G o i x y ∨ PB o (l.take j) i x y) ∨ PC o i y0 z x y) ∨ (x = z ∧ y = y0) := fun x y => by rw [PC.step hend.w hoz hzi, or_assoc, or_assoc, or_assoc]
        have hzi' : An o z' i := (An.one hoz).trans hzi
        refine W.cls (C' := Cls [row wC.heap.size Or qr (f z).length cr 3 1 (ints (f z)), rws wC.heap.size 3 1 (fout L z), blk b10 105 [.int .i64 (y0 : Int), .slice u.2.1 u.1.args.length u.2.2], blk bO 35 (L.map slC)] [wC, wB, w0, w]) (fun w' hw' => hw'.rws_out hr) ?_
        apply W.sk
        apply W.sb
        apply W.seq
        apply W.regd0; decide +kernel; kernel_rfl; decide +kernel; exact fun w hw => hw.drew
        apply qmv; rfl; rfl
        apply qmv; rfl; rfl
        apply qop; rfl; apply Pev.idxB; rfl; exact yes; rfl; exact yes; rfl; intro hcond; omega; rfl
        apply qop; rfl; apply Pev.load_blk; rfl; exact yes; apply List.Mem.tail; exact .tail _ (.tail _ (.head _)); rfl; assumption
        apply qfa; rfl; rfl; rfl
        apply qld; rfl; rfl; exact .tail _ (.tail _ (.head _)); rfl; rfl
        (((first | (with_reducible apply OL.op) | (with_reducible apply QL.op)); (exact Guard.au); rfl; rfl); (exact Pev.call (v := .bool (decide ((y0 : Int) ∈ f z))) rfl (by exact Args.au) (fun _ w2 hw2 => (IContains_calls qr cr (f z) (y0 : Int) w2 (by omega) (rowIntsL hw2 (.head _))).mono (fun e w3 h => ⟨h.1, hw2.ext h.2⟩))))
        apply qop; rfl; apply Pev.not; rfl; exact yes
        apply QL.nil
        with_reducible apply At.next
        by_cases hmem : (y0 : Int) ∈ f z
        · refine W.cond rfl (fun h => by simp [hmem] at h) (fun _ => ?_)
          apply W.skip
          with_reducible apply At.in_normal
          with_reducible apply At.next
          apply W.reg
          apply ofa; rfl; rfl; rfl
          apply oop; rfl; apply Pev.load_kept; rfl; exact yes; exact .head _; rfl; intro hcond; assumption; intro hcond; assumption; intro hcond; (focus ((try simp only [add_block]); (repeat (first | exact NotOwned.nil | exact hno _ (by omega) | refine NotOwned.blk (by omega) ?_ | refine NotOwned.row (by omega) ?_ | refine NotOwned.rws (by omega) ?_ | refine NotOwned.pile (by omega) ?_)); done))
          apply omv; rfl; rfl
          apply oop; rfl; apply Pev.idxB; rfl; exact yes; rfl; exact yes; rfl; intro hcond; omega; rfl
          apply oop; rfl; apply Pev.load_kept; rfl; exact yes; exact .tail _ (.head _); rfl; intro hcond; assumption; intro hcond; assumption; intro hcond; (focus ((try simp only [add_block]); (repeat (first | exact NotOwned.nil | exact hno _ (by omega) | refine NotOwned.blk (by omega) ?_ | refine NotOwned.row (by omega) ?_ | refine NotOwned.rws (by omega) ?_ | refine NotOwned.pile (by omega) ?_)); done))
          apply oas; rfl; rfl
          apply OL.nil
          refine At.again (z', L) ⟨⟨hzi', hpz'⟩, f, hL, hf.same hmem hstep⟩ (by simp only; omega) (by exact Sub.au) (fun w' hw' => ?_)
          have h9 := hw'.rws_in (by rw [hL.1]; exact hzl)
          rwa [set_same hr] at h9
        · refine W.cond rfl (fun _ => ?_) (fun h => by simp [hmem] at h)
          skip
          refine W.regany (X := XP5 [wC, wB, w0, w]) (fun x e => [(84, true, bif e 10 then .pointer (some ⟨bO, 0 + (z : Int).toNat * 1, none⟩) else x.old 84), (83, true, bif e 9 then .slice (some ⟨x.g1, 0, none⟩) ((f z).length + 1) x.c1 else x.old 83), (82, true, bif e 8 then .slice (some ⟨x.b1, 0, none⟩) 1 1 else x.old 82), (81, true, bif e 7 then .int .i64 (y0 : Int) else x.old 81), (80, true, bif e 6 then .pointer (some ⟨b10, 0 + 0, none⟩) else x.old 80), (79, true, bif e 5 then .slice qr (f z).length cr else x.old 79), (78, true, bif e 4 then .pointer (some ⟨bO, 0 + (z : Int).toNat * 1, none⟩) else x.old 78), (77, true, bif e 3 then .int .i64 (z : Int) else x.old 77), (76, true, bif e 2 then .slice (some ⟨bO, 0, none⟩) G.length G.length else x.old 76), (75, true, bif e 1 then .int .i64 (z : Int) else x.old 75), (74, true, bif e 0 then .slice (some ⟨bO, 0, none⟩) G.length G.length else x.old 74), (4, true, .pointer (some ⟨b2, 0, none⟩)), (6, true, .slice (some ⟨bO, 0, none⟩) G.length G.length), (7, true, .int .i64 (i : Int)), (10, true, .pointer (some ⟨b10, 0, none⟩)), (11, true, .int .i64 (z : Int)), (27, true, .slice (some a) G.length cap), (28, true, .int .i64 (G.length : Int)), (29, true, .int .i64 (i : Int)), (42, true, .slice (some ae) ts.length p.2.t.t.2), (43, true, .int .i64 (ts.length : Int)), (44, true, .int .i64 (j : Int))])
            (fun x e => (bif e 9 then row wC.heap.size x.O1 (some ⟨x.g1, 0, none⟩) ((f z).length + 1) x.c1 3 1 (ints (f z) ++ [.int .i64 (y0 : Int)]) else row wC.heap.size Or qr (f z).length cr 3 1 (ints (f z))) :: (rws wC.heap.size 3 1 (fout L z)) :: (blk b10 105 [.int .i64 (y0 : Int), .slice u.2.1 u.1.args.length u.2.2]) :: (blk bO 35 (bif e 11 then (L.map slC).set (0 + (z : Int).toNat * 1) (.slice (some ⟨x.g1, 0, none⟩) ((f z).length + 1) x.c1) else L.map slC)) :: (bif e 8 then blk x.b1 3 [.int .i64 (y0 : Int)] else nothing) :: [])
            (fun old => ⟨wC.heap.size, hA _ (Nat.le_refl _), 0, 0, fun _ => False, old⟩) (by kernel_rfl) (by kernel_rfl) (fun w hw => hw.drew) (fun old => by repeat (first | exact SubO.nil | apply SubO.cons rfl | refine SubO.old rfl ?_)) (fun old w' hw' => hw'.add_nothing) ?_ ?_
          · intro x e i o ho hei hd hcl
            have hi : i < 12 := (List.getElem?_eq_some_iff.1 ho).1
            obtain rfl | rfl | rfl | rfl | rfl | rfl | rfl | rfl | rfl | rfl | rfl | rfl : i = 0 ∨ i = 1 ∨ i = 2 ∨ i = 3 ∨ i = 4 ∨ i = 5 ∨ i = 6 ∨ i = 7 ∨ i = 8 ∨ i = 9 ∨ i = 10 ∨ i = 11 := by omega
            · cases ho
              have v0 : Eng.upd e 0 0 = true := upd_eq
              simp only [hei, cond_true, cond_false]
              apply omv; rfl; rfl
              apply OL.nil
              exact At.beside x (by repeat (first | exact Sub.nil | apply Sub.cons rfl | refine Sub.cons_eq rfl (by simp only [v0, cond_true, cond_false]) ?_)) (fun w' hw' => by first | exact hw' | (simp only [v0, cond_true, cond_false]; exact hw'))
            · cases ho
              have v1 : Eng.upd e 1 1 = true := upd_eq
              simp only [hei, cond_true, cond_false]
              apply omv; rfl; rfl
              apply OL.nil
              exact At.beside x (by repeat (first | exact Sub.nil | apply Sub.cons rfl | refine Sub.cons_eq rfl (by simp only [v1, cond_true, cond_false]) ?_)) (fun w' hw' => by first | exact hw' | (simp only [v1, cond_true, cond_false]; exact hw'))
            · cases ho
              have v2 : Eng.upd e 2 2 = true := upd_eq
              simp only [hei, cond_true, cond_false]
              apply omv; rfl; rfl
              apply OL.nil
              exact At.beside x (by repeat (first | exact Sub.nil | apply Sub.cons rfl | refine Sub.cons_eq rfl (by simp only [v2, cond_true, cond_false]) ?_)) (fun w' hw' => by first | exact hw' | (simp only [v2, cond_true, cond_false]; exact hw'))
            · cases ho
              have v3 : Eng.upd e 3 3 = true := upd_eq
              simp only [hei, cond_true, cond_false]
              apply omv; rfl; rfl
              apply OL.nil
              exact At.beside x (by repeat (first | exact Sub.nil | apply Sub.cons rfl | refine Sub.cons_eq rfl (by simp only [v3, cond_true, cond_false]) ?_)) (fun w' hw' => by first | exact hw' | (simp only [v3, cond_true, cond_false]; exact hw'))
            · cases ho
              have h2 : e 2 = true := hd ⟨2, .data⟩ (by simp) rfl
              have h3 : e 3 = true := hd ⟨3, .data⟩ (by simp) rfl
              have v4 : Eng.upd e 4 4 = true := upd_eq
              have v2 : Eng.upd e 4 2 = true := upd_mono h2
              have v3 : Eng.upd e 4 3 = true := upd_mono h3
              simp only [hei, h2, h3, cond_true, cond_false]
              apply oop; rfl; apply Pev.idxB; rfl; exact yes; rfl; exact yes; rfl; intro hcond; omega; rfl
              apply OL.nil
              exact At.beside x (by repeat (first | exact Sub.nil | apply Sub.cons rfl | refine Sub.cons_eq rfl (by simp only [v4, v2, v3, cond_true, cond_false]) ?_)) (fun w' hw' => by first | exact hw' | (simp only [v4, v2, v3, cond_true, cond_false]; exact hw'))
            · cases ho
              have h4 : e 4 = true := hd ⟨4, .data⟩ (by simp) rfl
              have h11 : e 11 = false := hcl.not (i := 5) (j := 11) rfl hei (by kernel_rfl)
              have v5 : Eng.upd e 5 5 = true := upd_eq
              have v4 : Eng.upd e 5 4 = true := upd_mono h4
              have v11 : Eng.upd e 5 11 = false := h11
              simp only [hei, h4, h11, cond_true, cond_false]
              apply oop; rfl; apply Pev.load_blk; rfl; exact yes; apply List.Mem.tail; exact .tail _ (.tail _ (.head _)); rfl; assumption
              apply OL.nil
              exact At.beside x (by repeat (first | exact Sub.nil | apply Sub.cons rfl | refine Sub.cons_eq rfl (by simp only [v5, v4, v11, cond_true, cond_false]) ?_)) (fun w' hw' => by first | exact hw' | (simp only [v5, v4, v11, cond_true, cond_false]; exact hw'))
            · cases ho
              have v6 : Eng.upd e 6 6 = true := upd_eq
              simp only [hei, cond_true, cond_false]
              apply ofa; rfl; rfl; rfl
              apply OL.nil
              exact At.beside x (by repeat (first | exact Sub.nil | apply Sub.cons rfl | refine Sub.cons_eq rfl (by simp only [v6, cond_true, cond_false]) ?_)) (fun w' hw' => by first | exact hw' | (simp only [v6, cond_true, cond_false]; exact hw'))
            · cases ho
              have h6 : e 6 = true := hd ⟨6, .data⟩ (by simp) rfl
              have v7 : Eng.upd e 7 7 = true := upd_eq
              have v6 : Eng.upd e 7 6 = true := upd_mono h6
              simp only [hei, h6, cond_true, cond_false]
              apply old; rfl; rfl; exact .tail _ (.tail _ (.head _)); rfl; rfl
              apply OL.nil
              exact At.beside x (by repeat (first | exact Sub.nil | apply Sub.cons rfl | refine Sub.cons_eq rfl (by simp only [v7, v6, cond_true, cond_false]) ?_)) (fun w' hw' => by first | exact hw' | (simp only [v7, v6, cond_true, cond_false]; exact hw'))
            · cases ho
              have h7 : e 7 = true := hd ⟨7, .data⟩ (by simp) rfl
              have v8 : Eng.upd e 8 8 = true := upd_eq
              have v7 : Eng.upd e 8 7 = true := upd_mono h7
              simp only [hei, h7, cond_true, cond_false]
              apply OL.buildSlice; rfl; rfl; rfl; exact Elems.au; rfl; rfl; (intro bk hbk; simp only [AllLe, and_true] at hbk)
              apply OL.nil
              exact At.beside { x with b1 := bk, hb1 := hA bk (by first | exact hbk | exact hbk.1) } (by repeat (first | exact Sub.nil | apply Sub.cons rfl | refine Sub.cons_eq rfl (by simp only [v8, v7, cond_true, cond_false]) ?_)) (fun w' hw' => by simp only [v8, v7, cond_true, cond_false]; exact Cls.fill (p := 4) (H := _ :: _ :: _ :: _ :: _ :: []) (.s (.s (.s (.s .z)))) hw')
            · cases ho
              have h5 : e 5 = true := hd ⟨5, .data⟩ (by simp) rfl
              have h8 : e 8 = true := hd ⟨8, .data⟩ (by simp) rfl
              have h11 : e 11 = false := hcl.not (i := 9) (j := 11) rfl hei (by kernel_rfl)
              have v9 : Eng.upd e 9 9 = true := upd_eq
              have v5 : Eng.upd e 9 5 = true := upd_mono h5
              have v8 : Eng.upd e 9 8 = true := upd_mono h8
              have v11 : Eng.upd e 9 11 = false := h11
              simp only [hei, h5, h8, h11, cond_true, cond_false]
              apply OL.append; rfl; rfl; rfl; rfl; exact Hole.au; apply List.Mem.tail; apply List.Mem.tail; exact .tail _ (.tail _ (.head _)); exact Take.au; rfl; rfl; exact ⟨_, .head _, Nat.le_refl _⟩; omega; intro O1 g1 cap1
              apply OL.nil
              exact At.beside { x with g1 := g1, c1 := cap1, O1 := O1 } (by repeat (first | exact Sub.nil | apply Sub.cons rfl | refine Sub.cons_eq rfl (by simp only [v9, v5, v8, v11, cond_true, cond_false]) ?_)) (fun w' hw' => by first | exact hw' | (simp only [v9, v5, v8, v11, cond_true, cond_false]; exact hw'))
            · cases ho
              have h0 : e 0 = true := hd ⟨0, .data⟩ (by simp) rfl
              have h1 : e 1 = true := hd ⟨1, .data⟩ (by simp) rfl
              have v10 : Eng.upd e 10 10 = true := upd_eq
              have v0 : Eng.upd e 10 0 = true := upd_mono h0
              have v1 : Eng.upd e 10 1 = true := upd_mono h1
              simp only [hei, h0, h1, cond_true, cond_false]
              apply oop; rfl; apply Pev.idxB; rfl; exact yes; rfl; exact yes; rfl; intro hcond; omega; rfl
              apply OL.nil
              exact At.beside x (by repeat (first | exact Sub.nil | apply Sub.cons rfl | refine Sub.cons_eq rfl (by simp only [v10, v0, v1, cond_true, cond_false]) ?_)) (fun w' hw' => by first | exact hw' | (simp only [v10, v0, v1, cond_true, cond_false]; exact hw'))
            · cases ho
              have h9 : e 9 = true := hd ⟨9, .data⟩ (by simp) rfl
              have h10 : e 10 = true := hd ⟨10, .data⟩ (by simp) rfl
              have v11 : Eng.upd e 11 11 = true := upd_eq
              have v9 : Eng.upd e 11 9 = true := upd_mono h9
              have v10 : Eng.upd e 11 10 = true := upd_mono h10
              simp only [hei, h9, h10, cond_true, cond_false]
              apply OL.storeI
              rfl
              rfl
              rfl
              rfl
              rfl
              exact Swap.au
              · rw [List.length_map, hL.1]; omega
              apply OL.nil
              exact At.beside x (by repeat (first | exact Sub.nil | apply Sub.cons rfl | refine Sub.cons_eq rfl (by simp only [v11, v9, v10, cond_true, cond_false]) ?_)) (fun w' hw' => by first | exact hw' | (simp only [v11, v9, v10, cond_true, cond_false]; exact hw'))
          intro x e hall
          simp only [hall 0 (by decide), hall 1 (by decide), hall 2 (by decide), hall 3 (by decide), hall 4 (by decide), hall 5 (by decide), hall 6 (by decide), hall 7 (by decide), hall 8 (by decide), hall 9 (by decide), hall 10 (by decide), hall 11 (by decide), cond_true, cond_false]
          have hx1a : wC.heap.size ≤ x.b1 := x.hb1.1
          with_reducible apply At.in_normal
          with_reducible apply At.next
          apply W.reg
          apply ofa; rfl; rfl; rfl
          apply oop; rfl; apply Pev.load_kept; rfl; exact yes; exact .head _; rfl; intro hcond; assumption; intro hcond; assumption; intro hcond; (focus ((try simp only [add_block]); (repeat (first | exact NotOwned.nil | exact hno _ (by omega) | refine NotOwned.blk (by omega) ?_ | refine NotOwned.row (by omega) ?_ | refine NotOwned.rws (by omega) ?_ | refine NotOwned.pile (by omega) ?_)); done))
          apply omv; rfl; rfl
          apply oop; rfl; apply Pev.idxB; rfl; exact yes; rfl; exact yes; rfl; intro hcond; omega; rfl
          apply oop; rfl; apply Pev.load_kept; rfl; exact yes; exact .tail _ (.head _); rfl; intro hcond; assumption; intro hcond; assumption; intro hcond; (focus ((try simp only [add_block]); (repeat (first | exact NotOwned.nil | exact hno _ (by omega) | refine NotOwned.blk (by omega) ?_ | refine NotOwned.row (by omega) ?_ | refine NotOwned.rws (by omega) ?_ | refine NotOwned.pile (by omega) ?_)); done))
          apply oas; rfl; rfl
          apply OL.nil
          have hL2 : RwsOf (L.set z ⟨x.O1, some ⟨x.g1, 0, none⟩, (f z).length + 1, x.c1, ints (f z) ++ [.int .i64 (y0 : Int)]⟩) G.length (fun k => if k = z then f z ++ [(y0 : Int)] else f k) := by
            refine hL.set ⟨?_, ?_⟩ (fun k hk => by rw [if_neg hk])
            · simp only [if_true, ints_append]; rfl
            · simp only [if_true, List.length_append, List.length_cons, List.length_nil]
          refine At.again (z', L.set z ⟨x.O1, some ⟨x.g1, 0, none⟩, (f z).length + 1, x.c1, ints (f z) ++ [.int .i64 (y0 : Int)]⟩) ⟨⟨hzi', hpz'⟩, _, hL2, hf.add hmem hstep⟩ (by simp only; omega) (by exact Sub.au) (fun w' hw' => ?_)
          · have h9 := hw'.rws_in (by rw [hL.1]; exact hzl)
            have hx1 := x.hb1
            rw [show (L.map slC).set (0 + (z : Int).toNat * 1) (.slice (some ⟨x.g1, 0, none⟩) ((f z).length + 1) x.c1) = (L.set z ⟨x.O1, some ⟨x.g1, 0, none⟩, (f z).length + 1, x.c1, ints (f z) ++ [.int .i64 (y0 : Int)]⟩).map slC by
              rw [show 0 + (z : Int).toNat * 1 = z by omega]
              exact slC_set L z ⟨x.O1, some ⟨x.g1, 0, none⟩, (f z).length + 1, x.c1, ints (f z) ++ [.int .i64 (y0 : Int)]⟩] at h9
            exact h9.thin (.keep (.keep (.keep (.any (fun k hk => by rw [show k = x.b1 from hk]; exact hx1) Thin.nil))))
      · have hzp : z = p0 := by
          by_cases e : z = p0
          · exact e
          · have e2 : ¬ (z : Int) = p0 := by omega
            simp [e2] at h3
        subst hzp
        refine W.xt ?_
        with_reducible apply At.in_normal
        with_reducible apply At.next
        apply W.reg
        apply obn; rfl; rfl; rfl; apply Bin.add_in; omega
        apply omv; rfl; rfl
        apply OL.nil
        refine At.again (j + 1, L) ⟨by simp only; omega, f, hL, hf.congr fun x y => by rw [htk, PB.snoc hp0, or_assoc]⟩ (by simp only; omega) (by exact Sub.au) (fun w' hw' => hw'.thin (.keep (.any (fun k hk => by rw [show k = b10 from hk]; exact hA b10 hb10) (.keep Thin.nil))))
    · obtain rfl : j = ts.length := by omega
      rw [← hll, List.take_length] at hf
      refine W.xt ?_
      with_reducible apply At.in_normal
      with_reducible apply At.next
      apply W.reg
      apply obn; rfl; rfl; rfl; apply Bin.add_in; omega
      apply omv; rfl; rfl
      apply OL.nil
      exact At.again (i + 1, L) ⟨by simp only; omega, f, hL, hf.congr fun x y => PA.succ hGi hri⟩ (by simp only; omega) (by exact Sub.au) (fun w' hw' => hw')
  · obtain rfl : i = G.length := by omega
    refine W.xt ?_
    with_reducible apply At.next
    apply W.seq
    apply W.sr
    apply omv; rfl; rfl
    apply oop; rfl; apply Pev.len_slice; rfl; exact yes; rfl
    apply omv; rfl; rfl
    apply OL.nx
    apply W.block
    have hlen : ∀ k, (f k).length ≤ G.length := hf.len hedge
    refine W.loop (G := Nat × List Rw) (fun g => g.1 ≤ G.length ∧ RwsOf g.2 G.length (fun k => if k < g.1 then isrt (f k) else f k)) (fun g => G.length - g.1)
      (fun g => [(6, true, .slice (some ⟨bO, 0, none⟩) G.length G.length), (87, true, .slice (some ⟨bO, 0, none⟩) G.length G.length), (88, true, .int .i64 (G.length : Int)), (89, true, .int .i64 (g.1 : Int))])
      (fun g => Cls [rws wC.heap.size 3 1 (fun j => g.2[j]?), blk bO 35 (g.2.map slC)] [wC, wB, w0, w]) (0, L)
      ⟨by simp, hL.congr fun k _ => by simp⟩ (by exact Sub.au) (fun w' hw' => hw') ?_
    rintro ⟨j, M⟩ ⟨hj, hM⟩
    simp only at hj hM ⊢
    have hMl := hM.1
    apply W.sr
    apply obn; rfl; rfl; rfl; apply Bin.lss
    apply OL.nx
    apply W.seq
    (refine W.cnd (fun hlt3 => ?_) (fun hlt3 => ?_)) <;> (try (exfalso; first | omega | exact hlt3 trivial | contradiction))
    · obtain ⟨⟨Or, qr, mr, cr, xr⟩, hr⟩ : ∃ r, M[j]? = some r := ⟨_, List.getElem?_eq_getElem (by omega)⟩
      obtain ⟨hrx, hrm⟩ := hM.2 j _ hr
      simp only [Nat.lt_irrefl, if_false] at hrx hrm
      subst hrx hrm
      have hrv : (M.map slC)[0 + j * 1]? = some (.slice qr (f j).length cr) := by
        rw [show 0 + j * 1 = j by omega, List.getElem?_map, hr]
        rfl
      have hfl := hlen j
      refine W.cls (C' := Cls [row wC.heap.size Or qr (f j).length cr 3 1 (ints (f j)), rws wC.heap.size 3 1 (fout M j), blk bO 35 (M.map slC)] [wC, wB, w0, w]) (fun w' hw' => hw'.rws_out hr) ?_
      apply W.sk
      apply W.sb
      apply W.sr
      apply oop; rfl; apply Pev.idxB; rfl; exact yes; rfl; exact yes; rfl; intro hcond; omega; rfl
      apply oop; rfl; apply Pev.load_blk; rfl; exact yes; exact .tail _ (.tail _ (.head _)); rfl; assumption
      apply oas; rfl; rfl
      apply OL.nx
      apply W.reg
      apply omv; rfl; rfl
      refine OL.callE (α := Unit) (fun _ => .tuple #[]) (fun _ => True) (fun _ => Cls [row wC.heap.size Or qr (f j).length cr 3 1 (ints (isrt (f j))), rws wC.heap.size 3 1 (fout M j), blk bO 35 (M.map slC)] [wC, wB, w0, w]) rfl rfl (by exact Args.au) (fun w2 hw2 => (SortI_calls (xs := f j) .z hw2 (by omega)).mono fun e w3 ⟨h1, h2⟩ => ⟨(), h1, trivial, h2⟩) ?_
      rintro _ _
      apply OL.nil
      with_reducible apply At.in_normal
      with_reducible apply At.next
      apply W.reg
      apply obn; rfl; rfl; rfl; apply Bin.add_in; omega
      apply omv; rfl; rfl
      apply OL.nil
      refine At.again (j + 1, M.set j ⟨Or, qr, (f j).length, cr, ints (isrt (f j))⟩) ⟨by simp only; omega, hM.set (g := fun k => if k < j + 1 then isrt (f k) else f k) ⟨?_, ?_⟩ (fun k hk => ?_)⟩ (by simp only; omega) (by exact Sub.au) (fun w' hw' => ?_)
      · rw [if_pos (by omega)]
      · rw [if_pos (by omega), isrt_len]
      · split <;> split <;> first | rfl | omega
      · have h9 := hw'.rws_in (by rw [hM.1]; omega)
        rw [show M.map slC = (M.set j ⟨Or, qr, (f j).length, cr, ints (isrt (f j))⟩).map slC by
          rw [← slC_set, set_same]
          rw [List.getElem?_map, hr]
          rfl] at h9
        exact h9
    · obtain rfl : j = G.length := by omega
      have hM2 : RwsOf M G.length (frL G) := hM.congr fun k hk => by rw [if_pos hk]; exact (fr_done hord hend hdm hE0 hf k).symm
      refine W.xt ?_
      with_reducible apply At.next
      apply W.sr
      apply omv; rfl; rfl
      apply oas; rfl; rfl
      apply oas; rfl; rfl
      apply OL.nx
      apply W.ret
      ((with_reducible apply At.fin2); rfl; rfl; rfl; intro w' hw')
      refine ⟨hw'.toExt (by exact mau) (fun k hk => NotOwned.rws (by omega) (NotOwned.blk (by omega) NotOwned.nil)), .inr ⟨by trivial, bO, rfl, blk_lt (hw'.item (.tail _ (.head _))), fun k hk => ?_⟩⟩
      obtain ⟨r, hr⟩ : ∃ r, M[k]? = some r := ⟨_, List.getElem?_eq_getElem (by omega)⟩
      obtain ⟨hrx, hrm⟩ := hM2.2 k r hr
      have h9 := hw'.rws_out hr
      rw [hrx] at h9
      refine ⟨r.q, r.cap, ?_, rowIntsL h9 (.head _)⟩
      rw [blk_cell (hw'.item (.tail _ (.head _))), List.getElem?_map, hr, ← hrm]
      rfl
end Go.Proofs.Ytehelljmaiophaa.ss

/- The walks of the reference's Tree and InFrontier. Conditions: none. -/
namespace Go.Ss
set_option linter.unusedVariables false
set_option linter.unusedSimpArgs false
open Go.Eng Go.RowKit
set_option linter.unusedVariables false
set_option linter.unusedSimpArgs false
open Classical in
noncomputable def rcB (G : List (List Int)) (v : Int) (k : Nat) : Bool := decide (Rc G v k)
theorem rcB_iff {G : List (List Int)} {v : Int} {k : Nat} : rcB G v k = true ↔ Rc G v k := by simp [rcB]
theorem rcB_not {G : List (List Int)} {v : Int} {k : Nat} : rcB G v k = false ↔ ¬ Rc G v k := by simp [rcB]
def BestOk (o : Nat → Option Nat) (p0 n i : Nat) : Option Nat → Prop
  | none => ∀ a, a < i → ¬ An o a p0
  | some b => (An o b p0 ∧ b < n) ∧ ∀ a, a < i → An o a p0 → An o a b
theorem BestOk.skip {o : Nat → Option Nat} {p0 n i : Nat} {z : Option Nat} (h : BestOk o p0 n i z) (hn : ¬ An o i p0) : BestOk o p0 n (i + 1) z := by
  cases z with
  | none =>
    intro a ha h1
    by_cases e : a = i
    · subst e; exact hn h1
    · exact h a (by omega) h1
  | some b =>
    refine ⟨h.1, fun a ha h1 => ?_⟩
    by_cases e : a = i
    · subst e; exact absurd h1 hn
    · exact h.2 a (by omega) h1
theorem BestOk.first {o : Nat → Option Nat} {p0 n i : Nat} (h : BestOk o p0 n i none) (hi : An o i p0) (hn : i < n) : BestOk o p0 n (i + 1) (some i) := by
  refine ⟨⟨hi, hn⟩, fun a ha h1 => ?_⟩
  by_cases e : a = i
  · subst e; exact .refl
  · exact absurd h1 (h a (by omega))
theorem BestOk.up {o : Nat → Option Nat} {p0 n i b : Nat} (h : BestOk o p0 n i (some b)) (hi : An o i p0) (hn : i < n) (hb : An o b i) : BestOk o p0 n (i + 1) (some i) := by
  refine ⟨⟨hi, hn⟩, fun a ha h1 => ?_⟩
  by_cases e : a = i
  · subst e; exact .refl
  · exact (h.2 a (by omega) h1).trans hb
theorem BestOk.keep {o : Nat → Option Nat} {p0 n i b : Nat} (h : BestOk o p0 n i (some b)) (hi : An o i p0) (hb : ¬ An o b i) : BestOk o p0 n (i + 1) (some b) := by
  refine ⟨h.1, fun a ha h1 => ?_⟩
  by_cases e : a = i
  · subst e
    exact (h1.comp h.1.1).resolve_right hb
  · exact h.2 a (by omega) h1
end Go.Ss
namespace Go.Proofs.Ytehelljmaiophaa.ss
set_option linter.unusedVariables false
set_option linter.unusedSimpArgs false
set_option maxRecDepth 100000
open Go.Eng Go.RowKit Go.Ss
set_option linter.unusedVariables false
set_option linter.unusedSimpArgs false
theorem Reach_ext (es : List (Bk × BkY)) (q : Option Addr) (cap : Nat) (nm v : Int) (w : World) (he : Arr bkR w (low w) es q) (hlen : es.length ≤ 140737488355328) :
    Calls Try.prog 39 [.agg #[.int .i64 nm, .slice q es.length cap], .int .i64 v].toArray w fun e w' => ∃ b : Nat, e = .returned (.slice (some ⟨b, 0, none⟩) es.length es.length) ∧ Ext w w' ∧ b < w'.heap.size ∧ ∀ k : Nat, k < es.length → w'.cell? ⟨b, 0 + (k : Int).toNat * 1, none⟩ = some (.bool (rcB (graphB (es.map Prod.fst)) v k)) :=
  (Reach_calls es q cap nm v w he hlen).mono fun e w' ⟨b, B, h1, h2, h3, h4, h5, h6⟩ => by
    refine ⟨b, h1, h4, blk_lt h6, fun k hk => ?_⟩
    rw [blk_cell h6, show 0 + (k : Int).toNat * 1 = k by omega]
    have hb : B[k]? = some B[k] := List.getElem?_eq_getElem (by omega)
    rw [bls_get hb]
    congr 2
    have h7 := h3 k
    rw [hb] at h7
    cases hbb : B[k] with
    | true => rw [hbb] at h7; exact (rcB_iff.2 (h7.1 rfl)).symm
    | false =>
      rw [hbb] at h7
      exact (rcB_not.2 fun h8 => by have := h7.2 h8; simp at this).symm
theorem RTree_calls (es : List (Bk × BkY)) (q : Option Addr) (cap : Nat) (nm : Int) (k : Nat) (o : Nat → Option Nat) (w : World) (he : Arr bkR w (low w) es q) (hlen : es.length ≤ 128) (hk : k < es.length)
    (hend : EndR (graphB (es.map Prod.fst)) (plN (graphB (es.map Prod.fst))) o) (hdm : ∀ a b, Rc (graphB (es.map Prod.fst)) (-1) b → (An o a b ↔ Dm (graphB (es.map Prod.fst)) a b)) (hz : plN (graphB (es.map Prod.fst)) 0 = 0) :
    Calls Try.prog 48 [.agg #[.int .i64 nm, .slice q es.length cap], .int .i64 (k : Int)].toArray w fun e w' => e = .returned (.int .i64 (ovI (o k))) ∧ Ext w w' := by
  obtain ⟨G, hG⟩ : ∃ G, graphB (es.map Prod.fst) = G := ⟨_, rfl⟩
  have hGl : G.length = es.length := by rw [← hG]; simp [graphB]
  have hRe := fun v w2 (H : List Eng.Item) (S : List World) (hw2 : Cls H S w2) (hs : w ∈ S) (hno : ∀ k, k < w.heap.size → NotOwned H k) => Reach_ext es q cap nm v w2 (he.at hw2 hs hno) (by omega)
  have hOv := fun a b w2 (H : List Eng.Item) (S : List World) (hw2 : Cls H S w2) (hs : w ∈ S) (hno : ∀ k, k < w.heap.size → NotOwned H k) => Over_calls es q cap nm a b w2 (he.at hw2 hs hno) (by omega)
  rw [hG] at hend hdm hz
  simp only [hG] at hRe hOv
  refine enter Try.func48 rfl Try.ntmps48 rfl (Cls.start w) ?_
  (simp only [argEnv, Nat.zero_add, Nat.reduceAdd])
  apply W.sr
  apply OL.box; rfl; rfl; exact CellsL.agg; (intro bk hbk; simp only [AllLe, and_true] at hbk)
  apply oas; rfl; rfl
  apply OL.nx
  apply W.seq
  apply W.sr
  apply omv; rfl; rfl
  apply obn; rfl; rfl; rfl; apply Bin.eql
  apply omv; rfl; rfl
  apply ono; rfl; rfl; rfl; apply Pev.load_blkA; rfl; exact yes; exact .head _; rfl; exact Take.au
  revert bk
  intro b1 hb1x
  have hb1 : w.heap.size ≤ b1 := by first | exact hb1x | exact hb1x.1
  refine OL.frzD (C' := fun w0 => Cls [] [w0, w]) (fun w0 hc0 => (hc0.thin (.any (fun k hk => by rw [show k = b1 from hk]; exact ⟨hb1, trivial⟩) Thin.nil)).note) (fun w0 hc0 => ?_)
  have hb10 : b1 < w0.heap.size := blk_lt (hc0.item (.head _))
  have hcF : CellsAt w0 ⟨b1, 0, none⟩ [.int .i64 nm, .slice q es.length cap] := fun j v hj => by
    rw [add_mid, blk_cell (hc0.item (.head _)), Nat.zero_add]
    exact hj
  have hcF1 : w0.cell? ⟨b1, 0 + 1, none⟩ = some (.slice q es.length cap) := hcF 1 _ rfl
  have ho0 : o 0 = none := by
    cases h : o 0 with
    | none => rfl
    | some p => have := (hend.w.wf _ _ h).2.2.1; omega
  have hon : ∀ j, ¬ Rc G (-1) j → o j = none := fun j hj => by
    cases h : o j with
    | none => rfl
    | some p => exact absurd (hend.w.wf _ _ h).1 hj
  by_cases hk0 : k = 0
  · (((first | (with_reducible apply OL.op) | (with_reducible apply QL.op)); (exact Guard.au); rfl; rfl); (exact Pev.void (v := .slice none 0 0) (by simp; omega)))
    apply ono; rfl; rfl; rfl; apply Pev.move; rfl; exact yes
    apply OL.gateOff; exact Guard.no rfl rfl; (simp; omega); rfl
    apply OL.gateOff; exact Guard.no rfl rfl; (simp; omega); rfl
    apply OL.gateOff; exact Guard.no rfl rfl; (simp; omega); rfl
    apply oop; rfl; apply Pev.pick_on; rfl; exact yes; (intro hcond; simp; omega); rfl; exact yes
    apply OL.nx
    refine W.cond rfl (fun _ => ?_) (fun h => by simp [hk0] at h)
    apply W.sr
    apply oas; rfl; rfl
    apply OL.nx
    refine W.rt ?_
    ((with_reducible apply At.fin1); rfl; rfl; intro w' hw')
    exact ⟨by rw [hk0, ho0]; rfl, by (exact hw'.fr)⟩
  have hkI : ¬ (k : Int) = 0 := by omega
  refine OL.callG (α := Nat × World) (fun z => .slice (some ⟨z.1, 0, none⟩) es.length es.length) (fun z => z.1 < z.2.heap.size ∧ ∀ j : Nat, j < es.length → z.2.cell? ⟨z.1, 0 + (j : Int).toNat * 1, none⟩ = some (.bool (rcB G (-1) j))) (fun z => Cls [] [z.2, w0, w]) Guard.au (by simp; omega) rfl rfl (by exact Args.au) (fun w2 hw2 => (hRe (-1) w2 _ _ hw2 (by exact mau) (fun k hk => NotOwned.nil)).mono fun e w3 ⟨bR, h1, h2, h3, h4⟩ => ⟨(bR, w3), h1, ⟨h3, h4⟩, (hw2.ext h2).note⟩) ?_
  rintro ⟨bR, wR⟩ ⟨hbR, hcR⟩
  simp only at hbR hcR ⊢
  have hcRk := hcR k hk
  apply ono; rfl; rfl; rfl; apply Pev.move; rfl; exact yes
  apply ono; rfl; rfl; rfl; apply Pev.idxB; rfl; exact yes; rfl; exact fun h => h; rfl; intro hcond; omega; rfl
  apply ono; rfl; rfl; rfl; apply Pev.load_kept; rfl; exact fun h => h; exact .head _; rfl; intro hcond; assumption; intro hcond; assumption; intro hcond; exact NotOwned.au
  apply ono; rfl; rfl; rfl; apply Pev.not; rfl; exact fun h => h
  apply oop; rfl; apply Pev.pick_or; rfl; exact yes; rfl; exact fun h => h
  apply OL.nx
  by_cases hr : ¬ Rc G (-1) k
  · refine W.cond rfl (fun _ => ?_) (fun h => by simp [rcB_not.2 hr, hkI] at h)
    apply W.sr
    apply oas; rfl; rfl
    apply OL.nx
    refine W.rt ?_
    ((with_reducible apply At.fin1); rfl; rfl; intro w' hw')
    exact ⟨by rw [hon k hr]; rfl, by (exact hw'.fr)⟩
  have hr : Rc G (-1) k := Classical.not_not.1 hr
  refine W.cond rfl (fun h => by simp [rcB_iff.2 hr, hk0] at h) (fun _ => ?_)
  obtain ⟨p0, hp0⟩ := Option.isSome_iff_exists.1 (hend.all k hr hk0)
  have hcand : ∀ a, a ≠ k → (Ovr G a k ↔ An o a p0) := fun a ha => by
    show Dm G a k ↔ _
    rw [← hdm a k hr]
    constructor
    · intro h
      cases h with
      | refl => exact absurd rfl ha
      | up h3 r =>
        rw [hp0] at h3
        obtain rfl := Option.some.inj h3
        exact r
    · exact fun h => .up hp0 h
  obtain ⟨_, hp0r, hp0l, _⟩ := hend.w.wf _ _ hp0
  have hpr : ∀ a, Rc G (-1) a → Pr G o a := fun a ha => ⟨ha, by
    by_cases e : a = 0
    · exact .inl e
    · exact .inr (hend.all a ha e)⟩
  have hp0n := hp0r.lt
  have hknot : ¬ An o k p0 := fun h => by have := h.le hend.w; omega
  apply W.sk
  apply W.sr
  apply oas; rfl; rfl
  apply OL.nx
  apply W.seq
  apply W.sr
  apply ofa; rfl; rfl; rfl
  apply oop; rfl; apply Pev.load_kept; rfl; exact yes; exact .tail _ (.head _); rfl; intro hcond; assumption; intro hcond; assumption; intro hcond; exact NotOwned.au
  apply oop; rfl; apply Pev.len_slice; rfl; exact yes; rfl
  apply omv; rfl; rfl
  apply OL.nx
  apply W.block
  refine W.loop (G := Nat × Option Nat) (fun z => z.1 ≤ es.length ∧ BestOk o p0 es.length z.1 z.2) (fun z => es.length - z.1)
    (fun z => [(1, true, .int .i64 (k : Int)), (2, true, .pointer (some ⟨b1, 0, none⟩)), (5, true, .int .i64 (ovI z.2)), (19, true, .int .i64 (es.length : Int)), (20, true, .int .i64 (z.1 : Int))])
    (fun z => Cls [] [w0, w]) (0, none) ⟨by simp, fun a h => by simp at h⟩ (by simp only [ovI_none]; exact Sub.au) (fun w' hw' => hw'.forget (by simp)) ?_
  rintro ⟨i, z⟩ ⟨hi, hz⟩
  simp only at hi hz ⊢
  apply W.sr
  apply obn; rfl; rfl; rfl; apply Bin.lss
  apply OL.nx
  apply W.seq
  (refine W.cnd (fun hlt => ?_) (fun hlt => ?_)) <;> (try (exfalso; first | omega | exact hlt trivial | contradiction))
  · have hil : i < es.length := by omega
    have hskip : ¬ An o i p0 → BestOk o p0 es.length (i + 1) z := fun hn => hz.skip hn
    apply W.sk
    apply W.sb
    apply W.sr
    apply omv; rfl; rfl
    apply oas; rfl; rfl
    apply OL.nx
    apply W.seq
    apply W.sr
    apply omv; rfl; rfl
    apply omv; rfl; rfl
    apply obn; rfl; rfl; rfl; apply Bin.eql
    apply omv; rfl; rfl
    apply ono; rfl; rfl; rfl; apply Pev.load_keptA; rfl; exact yes; exact .head _; rfl; intro hcond; assumption; rfl; intro hcond; assumption; intro hcond; exact NotOwned.au
    by_cases hik : i = k
    · subst hik
      (((first | (with_reducible apply OL.op) | (with_reducible apply QL.op)); (exact Guard.au); rfl; rfl); (exact Pev.void (v := .slice none 0 0) (by simp)))
      apply ono; rfl; rfl; rfl; apply Pev.move; rfl; exact yes
      apply OL.gateOff; exact Guard.no rfl rfl; (focus (simp; done)); rfl
      apply OL.gateOff; exact Guard.no rfl rfl; (focus (simp; done)); rfl
      apply OL.gateOff; exact Guard.no rfl rfl; (focus (simp; done)); rfl
      apply oop; rfl; apply Pev.pick_on; rfl; exact yes; (focus (intro hcond; simp; done)); rfl; exact yes
      apply omv; rfl; rfl
      apply ono; rfl; rfl; rfl; apply Pev.load_keptA; rfl; exact yes; exact .head _; rfl; intro hcond; assumption; rfl; intro hcond; assumption; intro hcond; exact NotOwned.au
      apply ono; rfl; rfl; rfl; apply Pev.move; rfl; exact yes
      apply ono; rfl; rfl; rfl; apply Pev.move; rfl; exact yes
      apply OL.gateOff; exact Guard.no rfl rfl; rfl; rfl
      apply OL.gateOff; exact Guard.no rfl rfl; rfl; rfl
      apply oop; rfl; apply Pev.pick_on; rfl; exact yes; (intro hcond; rfl); rfl; exact yes
      apply OL.nx
      refine W.cond rfl (fun _ => ?_) (fun h => by simp at h)
      refine W.xt ?_
      with_reducible apply At.next
      apply W.reg
      apply obn; rfl; rfl; rfl; apply Bin.add_in; omega
      apply omv; rfl; rfl
      apply OL.nil
      exact At.again (i + 1, z) ⟨by simp only; omega, hskip hknot⟩ (by simp only; omega) (by exact Sub.au) (fun w' hw' => hw')
    have hikI : ¬ (i : Int) = (k : Int) := by omega
    refine OL.callG (α := Nat × World) (fun z => .slice (some ⟨z.1, 0, none⟩) es.length es.length) (fun z => z.1 < z.2.heap.size ∧ ∀ j : Nat, j < es.length → z.2.cell? ⟨z.1, 0 + (j : Int).toNat * 1, none⟩ = some (.bool (rcB G (-1) j))) (fun z => Cls [] [z.2, w0, w]) Guard.au (by simp; omega) rfl rfl (by exact Args.au) (fun w2 hw2 => (hRe (-1) w2 _ _ hw2 (by exact mau) (fun k hk => NotOwned.nil)).mono fun e w3 ⟨bR, h1, h2, h3, h4⟩ => ⟨(bR, w3), h1, ⟨h3, h4⟩, (hw2.ext h2).note⟩) ?_
    rintro ⟨bR2, wR2⟩ ⟨hbR2, hcR2⟩
    simp only at hbR2 hcR2 ⊢
    have hcRi := hcR2 i hil
    apply ono; rfl; rfl; rfl; apply Pev.move; rfl; exact yes
    apply ono; rfl; rfl; rfl; apply Pev.idxB; rfl; exact yes; rfl; exact fun h => h; rfl; intro hcond; omega; rfl
    apply ono; rfl; rfl; rfl; apply Pev.load_kept; rfl; exact fun h => h; exact .head _; rfl; intro hcond; assumption; intro hcond; assumption; intro hcond; exact NotOwned.au
    apply ono; rfl; rfl; rfl; apply Pev.not; rfl; exact fun h => h
    apply oop; rfl; apply Pev.pick_or; rfl; exact yes; rfl; exact fun h => h
    apply omv; rfl; rfl
    apply ono; rfl; rfl; rfl; apply Pev.load_keptA; rfl; exact yes; exact .tail _ (.head _); rfl; intro hcond; assumption; rfl; intro hcond; assumption; intro hcond; exact NotOwned.au
    apply ono; rfl; rfl; rfl; apply Pev.move; rfl; exact yes
    apply ono; rfl; rfl; rfl; apply Pev.move; rfl; exact yes
    by_cases hri : ¬ Rc G (-1) i
    · (((first | (with_reducible apply OL.op) | (with_reducible apply QL.op)); (exact Guard.au); rfl; rfl); (exact Pev.void (v := .bool false) (by simp [rcB_not.2 hri])))
      apply ono; rfl; rfl; rfl; apply Pev.not; rfl; exact fun h => h
      apply oop; rfl; apply Pev.pick_or; rfl; exact yes; rfl; exact fun h => h
      apply OL.nx
      refine W.cond rfl (fun _ => ?_) (fun h => by simp [rcB_not.2 hri] at h)
      refine W.xt ?_
      with_reducible apply At.next
      apply W.reg
      apply obn; rfl; rfl; rfl; apply Bin.add_in; omega
      apply omv; rfl; rfl
      apply OL.nil
      exact At.again (i + 1, z) ⟨by simp only; omega, hskip fun h => hri (h.pr hend.w (hpr _ hp0r)).1⟩ (by simp only; omega) (by exact Sub.au) (fun w' hw' => hw'.forget (by simp))
    have hri : Rc G (-1) i := Classical.not_not.1 hri
    refine OL.callG (α := Bool) (fun r => .bool r) (fun r => r = true ↔ An o i p0) (fun _ => Cls [] [wR2, w0, w]) Guard.au (by simp [rcB_iff.2 hri]; omega) rfl rfl (by exact Args.au) (fun w2 hw2 => (hOv i k w2 _ _ hw2 (by exact mau) (fun k hk => NotOwned.nil) hk).mono fun e w3 ⟨r, h1, h2, h3⟩ => ⟨r, h1, h2.trans (hcand i hik), hw2.ext h3⟩) ?_
    intro r hrr
    apply ono; rfl; rfl; rfl; apply Pev.not; rfl; exact yes
    apply oop; rfl; apply Pev.pick_or; rfl; exact yes; rfl; exact fun h => h
    apply OL.nx
    by_cases hAn : ¬ An o i p0
    · obtain rfl : r = false := Bool.eq_false_iff.2 fun h => hAn (hrr.1 h)
      refine W.cond rfl (fun _ => ?_) (fun h => by simp at h)
      refine W.xt ?_
      with_reducible apply At.next
      apply W.reg
      apply obn; rfl; rfl; rfl; apply Bin.add_in; omega
      apply omv; rfl; rfl
      apply OL.nil
      exact At.again (i + 1, z) ⟨by simp only; omega, hskip hAn⟩ (by simp only; omega) (by exact Sub.au) (fun w' hw' => hw'.forget (by simp))
    have hAn : An o i p0 := Classical.not_not.1 hAn
    obtain rfl : r = true := hrr.2 hAn
    refine W.cond rfl (fun h => by rw [rcB_iff.2 hri, decide_eq_false hikI] at h; cases h) (fun _ => ?_)
    apply W.sk
    apply W.sr
    apply omv; rfl; rfl
    apply obn; rfl; rfl; rfl; apply Bin.lss
    apply omv; rfl; rfl
    apply ono; rfl; rfl; rfl; apply Pev.load_keptA; rfl; exact yes; exact .tail _ (.head _); rfl; intro hcond; assumption; rfl; intro hcond; assumption; intro hcond; exact NotOwned.au
    apply ono; rfl; rfl; rfl; apply Pev.move; rfl; exact yes
    apply ono; rfl; rfl; rfl; apply Pev.move; rfl; exact yes
    cases z with
    | none =>
      simp only [ovI_none]
      apply OL.gateOff; exact Guard.no rfl rfl; rfl; rfl
      apply oop; rfl; apply Pev.pick_on; rfl; exact yes; (intro hcond; rfl); rfl; exact yes
      apply OL.nx
      refine W.cond rfl (fun _ => ?_) (fun h => by simp at h)
      apply W.reg
      apply omv; rfl; rfl
      apply oas; rfl; rfl
      apply OL.nil
      with_reducible apply At.in_normal
      with_reducible apply At.next
      apply W.reg
      apply obn; rfl; rfl; rfl; apply Bin.add_in; omega
      apply omv; rfl; rfl
      apply OL.nil
      exact At.again (i + 1, some i) ⟨by simp only; omega, hz.first hAn hil⟩ (by simp only; omega) (by exact Sub.au) (fun w' hw' => hw'.forget (by simp))
    | some b =>
      simp only [ovI_some]
      skip
      have hbI : ¬ (b : Int) < 0 := by omega
      refine OL.callG (α := Bool) (fun r => .bool r) (fun r => r = true ↔ An o b i) (fun _ => Cls [] [wR2, w0, w]) Guard.au (by rw [Bool.not_eq_true']; exact decide_eq_false (by omega)) rfl rfl (by exact Args.au) (fun w2 hw2 => (hOv b i w2 _ _ hw2 (by exact mau) (fun k hk => NotOwned.nil) hil).mono fun e w3 ⟨r, h1, h2, h3⟩ => ⟨r, h1, h2.trans (hdm b i hri).symm, hw2.ext h3⟩) ?_
      intro r hr2
      apply oop; rfl; apply Pev.pick_or; rfl; exact yes; rfl; exact yes
      apply OL.nx
      cases r with
      | true =>
        refine W.cond rfl (fun _ => ?_) (fun h => by simp at h)
        apply W.reg
        apply omv; rfl; rfl
        apply oas; rfl; rfl
        apply OL.nil
        with_reducible apply At.in_normal
        with_reducible apply At.next
        apply W.reg
        apply obn; rfl; rfl; rfl; apply Bin.add_in; omega
        apply omv; rfl; rfl
        apply OL.nil
        exact At.again (i + 1, some i) ⟨by simp only; omega, hz.up hAn hil (hr2.1 rfl)⟩ (by simp only; omega) (by exact Sub.au) (fun w' hw' => hw'.forget (by simp))
      | false =>
        refine W.cond rfl (fun h => by rw [Bool.or_false] at h; exact absurd (of_decide_eq_true h) (by omega)) (fun _ => ?_)
        apply W.skip
        with_reducible apply At.in_normal
        with_reducible apply At.next
        apply W.reg
        apply obn; rfl; rfl; rfl; apply Bin.add_in; omega
        apply omv; rfl; rfl
        apply OL.nil
        exact At.again (i + 1, some b) ⟨by simp only; omega, hz.keep hAn fun h => by have := hr2.2 h; cases this⟩ (by simp only; omega) (by exact Sub.au) (fun w' hw' => hw'.forget (by simp))
  · obtain rfl : i = es.length := by omega
    cases z with
    | none => exact absurd .refl (hz p0 (by omega))
    | some b =>
      obtain ⟨⟨h1, _⟩, h2⟩ := hz
      obtain rfl := (h2 p0 (by omega) .refl).anti hend.w h1
      refine W.xt ?_
      with_reducible apply At.next
      apply W.sr
      apply omv; rfl; rfl
      apply oas; rfl; rfl
      apply OL.nx
      apply W.ret
      ((with_reducible apply At.fin1); rfl; rfl; intro w' hw')
      exact ⟨by rw [hp0], by (exact hw'.fr)⟩
theorem InFrontier_calls (es : List (Bk × BkY)) (q : Option Addr) (cap : Nat) (nm : Int) (a b : Nat) (w : World) (he : Arr bkR w (low w) es q) (hlen : es.length ≤ 128) (hM : ∀ p ∈ es, p.1.term.to_.length ≤ 257) (hb : b < es.length) :
    Calls Try.prog 44 [.agg #[.int .i64 nm, .slice q es.length cap], .int .i64 (a : Int), .int .i64 (b : Int)].toArray w fun e w' => ∃ r : Bool, e = .returned (.bool r) ∧ (r = true ↔ InF (graphB (es.map Prod.fst)) a b) ∧ Ext w w' := by
  obtain ⟨G, hG⟩ : ∃ G, graphB (es.map Prod.fst) = G := ⟨_, rfl⟩
  have hGl : G.length = es.length := by rw [← hG]; simp [graphB]
  have hRe := fun v w2 (H : List Eng.Item) (S : List World) (hw2 : Cls H S w2) (hs : w ∈ S) (hno : ∀ k, k < w.heap.size → NotOwned H k) => Reach_ext es q cap nm v w2 (he.at hw2 hs hno) (by omega)
  have hOv := fun a b w2 (H : List Eng.Item) (S : List World) (hw2 : Cls H S w2) (hs : w ∈ S) (hno : ∀ k, k < w.heap.size → NotOwned H k) => Over_calls es q cap nm a b w2 (he.at hw2 hs hno) (by omega)
  have hPr := fun k w2 (H : List Eng.Item) (S : List World) (hw2 : Cls H S w2) (hs : w ∈ S) (hno : ∀ k, k < w.heap.size → NotOwned H k) => RPreds_calls es q cap nm k w2 (he.at hw2 hs hno) hlen hM
  simp only [hG] at hRe hOv hPr ⊢
  refine enter Try.func44 rfl Try.ntmps44 rfl (Cls.start w) ?_
  (simp only [argEnv, Nat.zero_add, Nat.reduceAdd])
  apply W.sr
  apply OL.box; rfl; rfl; exact CellsL.agg; (intro bk hbk; simp only [AllLe, and_true] at hbk)
  apply oas; rfl; rfl
  apply OL.nx
  apply W.seq
  apply W.sr
  apply oop; rfl; apply Pev.load_blkA; rfl; exact yes; exact .head _; rfl; exact Take.au
  apply omv; rfl; rfl
  apply omv; rfl; rfl
  revert bk
  intro b1 hb1x
  have hb1 : w.heap.size ≤ b1 := by first | exact hb1x | exact hb1x.1
  refine OL.frzD (C' := fun w0 => Cls [] [w0, w]) (fun w0 hc0 => (hc0.thin (.any (fun k hk => by rw [show k = b1 from hk]; exact ⟨hb1, trivial⟩) Thin.nil)).note) (fun w0 hc0 => ?_)
  have hb10 : b1 < w0.heap.size := blk_lt (hc0.item (.head _))
  have hcF : CellsAt w0 ⟨b1, 0, none⟩ [.int .i64 nm, .slice q es.length cap] := fun j v hj => by
    rw [add_mid, blk_cell (hc0.item (.head _)), Nat.zero_add]
    exact hj
  refine OL.callE (α := Bool) (fun r => .bool r) (fun r => r = true ↔ Ovr G a b) (fun _ => Cls [] [w0, w]) rfl rfl (by exact Args.au) (fun w2 hw2 => (hOv a b w2 _ _ hw2 (by exact mau) (fun k hk => NotOwned.nil) hb).mono fun e w3 ⟨r, h1, h2, h3⟩ => ⟨r, h1, h2, hw2.ext h3⟩) ?_
  intro r hr
  apply omv; rfl; rfl
  apply oy; rfl; rfl; rfl; apply Pev.move; rfl; exact yes
  apply oy; rfl; rfl; rfl; apply Pev.move; rfl; exact yes
  apply oy; rfl; rfl; rfl; apply Pev.bin; rfl; exact fun h => h; rfl; exact fun h => h; intro hcond; apply Bin.neq
  apply oop; rfl; apply Pev.pick_and; rfl; exact yes; rfl; exact fun h => h
  apply OL.nx
  by_cases hst : Ovr G a b ∧ a ≠ b
  · obtain rfl : r = true := hr.2 hst.1
    refine W.cond rfl (fun _ => ?_) (fun h => by have := hst.2; simp at h; omega)
    apply W.sr
    apply oas; rfl; rfl
    apply OL.nx
    refine W.rt ?_
    ((with_reducible apply At.fin1); rfl; rfl; intro w' hw')
    exact ⟨false, rfl, ⟨fun h => (by cases h), fun h => absurd hst h.1⟩, by (exact hw'.fr)⟩
  refine W.cond rfl (fun h => ?_) (fun _ => ?_)
  · exfalso
    apply hst
    rw [Bool.and_eq_true] at h
    refine ⟨hr.1 h.1, fun e => ?_⟩
    subst e
    simp at h
  apply W.sk
  apply W.sr
  apply oop; rfl; apply Pev.load_keptA; rfl; exact yes; exact .head _; rfl; intro hcond; assumption; rfl; intro hcond; assumption; intro hcond; exact NotOwned.au
  refine OL.callE (α := Nat × World) (fun z => .slice (some ⟨z.1, 0, none⟩) es.length es.length) (fun z => z.1 < z.2.heap.size ∧ ∀ j : Nat, j < es.length → z.2.cell? ⟨z.1, 0 + (j : Int).toNat * 1, none⟩ = some (.bool (rcB G (-1) j))) (fun z => Cls [] [z.2, w0, w]) rfl rfl (by exact Args.au) (fun w2 hw2 => (hRe (-1) w2 _ _ hw2 (by exact mau) (fun k hk => NotOwned.nil)).mono fun e w3 ⟨bR, h1, h2, h3, h4⟩ => ⟨(bR, w3), h1, ⟨h3, h4⟩, (hw2.ext h2).note⟩) ?_
  rintro ⟨bR, wR⟩ ⟨hbR, hcR⟩
  simp only at hbR hcR ⊢
  apply oas; rfl; rfl
  apply OL.nx
  apply W.seq
  apply W.sr
  apply oop; rfl; apply Pev.load_keptA; rfl; exact yes; exact .tail _ (.head _); rfl; intro hcond; assumption; rfl; intro hcond; assumption; intro hcond; exact NotOwned.au
  apply omv; rfl; rfl
  obtain ⟨P, hPe⟩ : ∃ P, predsF G 0 (b : Int) = P := ⟨_, rfl⟩
  have hGM : ∀ l ∈ G, l.length ≤ 257 := fun l hl => by
    rw [← hG] at hl
    obtain ⟨b, hb, rfl⟩ := List.mem_map.1 hl
    obtain ⟨p, hp, rfl⟩ := List.mem_map.1 hb
    rw [List.length_map]
    exact hM p hp
  have hPl : (predsF G 0 (b : Int)).length ≤ 128 * 257 := Nat.le_trans (predsF_len (M := 257) hGM) (Nat.mul_le_mul_right _ (by omega))
  have hPx : ∀ x ∈ predsF G 0 (b : Int), ∃ p : Nat, x = (p : Int) ∧ p < G.length := fun x hx => by
    obtain ⟨p, l, h1, _, h3⟩ := predsF_mem.1 hx
    exact ⟨p, by omega, (List.getElem?_eq_some_iff.1 h1).1⟩
  refine OL.callE (α := (Option Addr × Nat) × World) (fun z => .slice z.1.1 P.length z.1.2) (fun z => IntsO z.2 (low z.2) P z.1.1) (fun z => Cls [] [z.2, wR, w0, w]) rfl rfl (by exact Args.au) (fun w2 hw2 => (hPr (b : Int) w2 _ _ hw2 (by exact mau) (fun k hk => NotOwned.nil)).mono fun e w3 ⟨q', c', h1, h2, h3⟩ => ⟨((q', c'), w3), by rw [← hPe]; exact h1, by rw [← hPe]; exact h3.mono (fun k hk => hk.2), (hw2.ext h2).note⟩) ?_
  rintro ⟨⟨qp, cp⟩, wP⟩ hIp
  simp only at hIp ⊢
  apply oop; rfl; apply Pev.len_slice; rfl; exact yes; rfl
  apply omv; rfl; rfl
  apply OL.nx
  apply W.block
  have hnot : ¬ (Dm G a b ∧ a ≠ b) := hst
  have hmem : ∀ p : Nat, (p : Int) ∈ P ↔ Go.Ss.Edge G p b := fun p => by rw [← hPe]; exact preds_edge
  rw [hPe] at hPl hPx
  refine W.loop (G := Nat) (fun j => j ≤ P.length ∧ ∀ p : Nat, (p : Int) ∈ P.take j → ¬ (Rc G (-1) p ∧ Dm G a p)) (fun j => P.length - j)
    (fun j => [(1, true, .int .i64 (a : Int)), (3, true, .pointer (some ⟨b1, 0, none⟩)), (7, true, .slice (some ⟨bR, 0, none⟩) es.length es.length), (23, true, .slice qp P.length cp), (24, true, .int .i64 (P.length : Int)), (25, true, .int .i64 (j : Int))])
    (fun j => Cls [] [wP, wR, w0, w]) 0 ⟨by simp, fun p h => by simp at h⟩ (by exact Sub.au) (fun w' hw' => hw') ?_
  rintro j ⟨hj, hall⟩
  apply W.sr
  apply obn; rfl; rfl; rfl; apply Bin.lss
  apply OL.nx
  apply W.seq
  (refine W.cnd (fun hlt => ?_) (fun hlt => ?_)) <;> (try (exfalso; first | omega | exact hlt trivial | contradiction))
  · have hjl : j < P.length := by omega
    obtain ⟨ap, x, hqp, habp, hx, hcx⟩ := hIp.get hjl
    obtain ⟨p, rfl, hpl⟩ := hPx x (List.mem_of_getElem? hx)
    have habp : ap.block < wP.heap.size := habp
    have hpl2 : p < es.length := by omega
    have hcRp := hcR p hpl2
    have hnext : ¬ (Rc G (-1) p ∧ Dm G a p) → ∀ p' : Nat, (p' : Int) ∈ P.take (j + 1) → ¬ (Rc G (-1) p' ∧ Dm G a p') := fun hn p' hp' => by
      rw [List.take_add_one, hx, Option.toList_some] at hp'
      rcases List.mem_append.1 hp' with hp' | hp'
      · exact hall p' hp'
      · have := List.mem_singleton.1 hp'
        obtain rfl : p' = p := by omega
        exact hn
    rw [hqp]
    apply W.sk
    apply W.sb
    apply W.sr
    apply oop; rfl; apply Pev.idx; rfl; exact yes; rfl; exact yes; rfl; rfl; intro hcond; omega
    apply oop; rfl; apply Pev.load_kept; rfl; exact yes; exact .head _; rfl; intro hcond; assumption; intro hcond; (rw [add_block]; assumption); intro hcond; exact NotOwned.au
    apply oas; rfl; rfl
    apply OL.nsr
    apply omv; rfl; rfl
    apply omv; rfl; rfl
    apply oop; rfl; apply Pev.idxB; rfl; exact yes; rfl; exact yes; rfl; intro hcond; omega; rfl
    apply oop; rfl; apply Pev.load_kept; rfl; exact yes; exact .tail _ (.head _); rfl; intro hcond; assumption; intro hcond; assumption; intro hcond; exact NotOwned.au
    apply omv; rfl; rfl
    apply oy; rfl; rfl; rfl; apply Pev.load_keptA; rfl; exact yes; exact .tail _ (.tail _ (.head _)); rfl; intro hcond; assumption; rfl; intro hcond; assumption; intro hcond; exact NotOwned.au
    apply oy; rfl; rfl; rfl; apply Pev.move; rfl; exact yes
    apply oy; rfl; rfl; rfl; apply Pev.move; rfl; exact yes
    by_cases hrp : ¬ Rc G (-1) p
    · (((first | (with_reducible apply OL.op) | (with_reducible apply QL.op)); (exact Guard.au); rfl; rfl); (exact Pev.void (v := .bool false) (rcB_not.2 hrp)))
      apply oop; rfl; apply Pev.pick_and; rfl; exact yes; rfl; exact fun h => h
      apply OL.nx
      refine W.cond rfl (fun h => by simp [rcB_not.2 hrp] at h) (fun _ => ?_)
      apply W.skip
      with_reducible apply At.in_normal
      with_reducible apply At.next
      apply W.reg
      apply obn; rfl; rfl; rfl; apply Bin.add_in; omega
      apply omv; rfl; rfl
      apply OL.nil
      exact At.again (j + 1) ⟨by omega, hnext fun h => hrp h.1⟩ (by omega) (by exact Sub.au) (fun w' hw' => hw')
    have hrp : Rc G (-1) p := Classical.not_not.1 hrp
    refine OL.callG (α := Bool) (fun r => .bool r) (fun r => r = true ↔ Ovr G a p) (fun _ => Cls [] [wP, wR, w0, w]) Guard.au (rcB_iff.2 hrp) rfl rfl (by exact Args.au) (fun w2 hw2 => (hOv a p w2 _ _ hw2 (by exact mau) (fun k hk => NotOwned.nil) hpl2).mono fun e w3 ⟨r, h1, h2, h3⟩ => ⟨r, h1, h2, hw2.ext h3⟩) ?_
    intro r2 hr2
    apply oop; rfl; apply Pev.pick_and; rfl; exact yes; rfl; exact yes
    apply OL.nx
    cases r2 with
    | true =>
      refine W.cond rfl (fun _ => ?_) (fun h => by simp [rcB_iff.2 hrp] at h)
      apply W.sr
      apply oas; rfl; rfl
      apply OL.nx
      refine W.rt ?_
      ((with_reducible apply At.fin1); rfl; rfl; intro w' hw')
      exact ⟨true, rfl, ⟨fun _ => ⟨hnot, p, hrp, (hmem p).1 (List.mem_of_getElem? hx), hr2.1 rfl⟩, fun _ => rfl⟩, by (exact hw'.fr)⟩
    | false =>
      refine W.cond rfl (fun h => by simp at h) (fun _ => ?_)
      apply W.skip
      with_reducible apply At.in_normal
      with_reducible apply At.next
      apply W.reg
      apply obn; rfl; rfl; rfl; apply Bin.add_in; omega
      apply omv; rfl; rfl
      apply OL.nil
      exact At.again (j + 1) ⟨by omega, hnext fun h => by have := hr2.2 h.2; cases this⟩ (by omega) (by exact Sub.au) (fun w' hw' => hw')
  · obtain rfl : j = P.length := by omega
    rw [List.take_length] at hall
    refine W.xt ?_
    with_reducible apply At.next
    apply W.sr
    apply oas; rfl; rfl
    apply OL.nx
    apply W.ret
    ((with_reducible apply At.fin1); rfl; rfl; intro w' hw')
    exact ⟨false, rfl, ⟨fun h => (by cases h), fun ⟨_, p, h1, h2, h3⟩ => absurd ⟨h1, h3⟩ (hall p ((hmem p).2 h2))⟩, by (exact hw'.fr)⟩
end Go.Proofs.Ytehelljmaiophaa.ss

/- The walks of SameRows and of the law's domWorks. Conditions: none. -/
namespace Go.Ss
set_option linter.unusedVariables false
set_option linter.unusedSimpArgs false
open Go.Eng Go.RowKit
set_option linter.unusedVariables false
set_option linter.unusedSimpArgs false
def slID (p : List Int × Sc) : Value := .slice p.2.1 p.1.length p.2.2
def intsD : Rel (List Int) Sc where
  sz := 1
  pos := by decide
  cells := fun l y => [slID (l, y)]
  ok := fun w O l y => IntsO w O l y.1
  len := fun _ _ => rfl
  stab := fun hk h => h.stab hk
  mono := fun hk h => h.mono hk
theorem arrRows {w : World} {bO n : Nat} {f : Nat → List Int} (hb : bO < w.heap.size) (h : ∀ k : Nat, k < n → ∃ (q : Option Addr) (c : Nat), w.cell? ⟨bO, k, none⟩ = some (.slice q (f k).length c) ∧ IntsO w (low w) (f k) q) : ∃ A : List (List Int × Sc), A.map Prod.fst = (List.range n).map f ∧ A.length = n ∧ Arr intsD w (low w) A (some ⟨bO, 0, none⟩) := by
  have h1 : ∀ k, ∃ s : Sc, k < n → w.cell? ⟨bO, k, none⟩ = some (.slice s.1 (f k).length s.2) ∧ IntsO w (low w) (f k) s.1 := fun k => by
    by_cases hk : k < n
    · obtain ⟨q, c, h2⟩ := h k hk
      exact ⟨(q, c), fun _ => h2⟩
    · exact ⟨(none, 0), fun h => absurd h hk⟩
  obtain ⟨s, hs⟩ := Classical.axiomOfChoice h1
  have hget : ∀ k, k < n → ((List.range n).map fun k => (f k, s k))[k]? = some (f k, s k) := fun k hk => by simp [hk]
  refine ⟨(List.range n).map fun k => (f k, s k), by rw [List.map_map]; rfl, by simp, fun hl => ⟨_, rfl, hb, fun j v hj => ?_⟩, fun p hp => ?_⟩
  · have hjn : j < n := by
      have := (List.getElem?_eq_some_iff.1 hj).1
      rw [cat_length (f := intsD.c) intsD.clen] at this
      simp [intsD] at this
      exact this
    have h3 := cat_get (f := intsD.c) intsD.clen (hget j hjn) 0 _ (show (intsD.c (f j, s j))[0]? = some _ from rfl)
    rw [show j * intsD.sz + 0 = j from Nat.mul_one j, hj] at h3
    obtain rfl := Option.some.inj h3
    rw [add_mid, Nat.zero_add]
    exact (hs j hjn).1
  · obtain ⟨k, hk, rfl⟩ := List.mem_map.1 hp
    exact (hs k (List.mem_range.1 hk)).2
def diaG : List (List Int) := graphB dia.blocks
theorem diaG_eq : diaG = [[1, 2], [3], [3], []] := by decide
theorem dia_edge {q b : Nat} : Edge diaG q b ↔ (q = 0 ∧ (b = 1 ∨ b = 2)) ∨ (q = 1 ∧ b = 3) ∨ (q = 2 ∧ b = 3) := by
  rw [diaG_eq]
  constructor
  · rintro ⟨l, h1, h2⟩
    match q, h1 with
    | 0, h1 =>
      obtain rfl := Option.some.inj h1
      simp at h2
      omega
    | 1, h1 =>
      obtain rfl := Option.some.inj h1
      simp at h2
      omega
    | 2, h1 =>
      obtain rfl := Option.some.inj h1
      simp at h2
      omega
    | 3, h1 =>
      obtain rfl := Option.some.inj h1
      simp at h2
    | q + 4, h1 => simp at h1
  · rintro (⟨rfl, rfl | rfl⟩ | ⟨rfl, rfl⟩ | ⟨rfl, rfl⟩)
    · exact ⟨_, rfl, by simp⟩
    · exact ⟨_, rfl, by simp⟩
    · exact ⟨_, rfl, by simp⟩
    · exact ⟨_, rfl, by simp⟩
theorem dia_len : diaG.length = 4 := by decide
theorem rc_no0 {G : List (List Int)} {k : Nat} : ¬ Rc G 0 k := fun h => by
  induction h with
  | zero h _ => exact h rfl
  | step _ _ _ _ ih => exact ih
theorem dia_0 {v : Int} (h : v ≠ 0) : Rc diaG v 0 := .zero h (by rw [dia_len]; omega)
theorem dia_1 {v : Int} (h : v ≠ 0) (h1 : v ≠ 1) : Rc diaG v 1 := .step (dia_0 h) (dia_edge.2 (by omega)) (fun e => h1 e.symm) (by rw [dia_len]; omega)
theorem dia_2 {v : Int} (h : v ≠ 0) (h1 : v ≠ 2) : Rc diaG v 2 := .step (dia_0 h) (dia_edge.2 (by omega)) (fun e => h1 e.symm) (by rw [dia_len]; omega)
theorem dia_3 {v : Int} (h : v ≠ 0) (h3 : v ≠ 3) : Rc diaG v 3 := by
  by_cases h1 : v = 1
  · exact .step (dia_2 h (by omega)) (dia_edge.2 (by omega)) (fun e => h3 e.symm) (by rw [dia_len]; omega)
  · exact .step (dia_1 h h1) (dia_edge.2 (by omega)) (fun e => h3 e.symm) (by rw [dia_len]; omega)
theorem dia_k {k : Nat} (h : k < 4) : Rc diaG (-1) k := by
  match k, h with
  | 0, _ => exact dia_0 (by decide)
  | 1, _ => exact dia_1 (by decide) (by decide)
  | 2, _ => exact dia_2 (by decide) (by decide)
  | 3, _ => exact dia_3 (by decide) (by decide)
theorem dia_dm {a b : Nat} (hb : b < 4) : Dm diaG a b ↔ a = b ∨ a = 0 := by
  constructor
  · rintro (h | h)
    · exact .inl h
    · by_cases e : a = b
      · exact .inl e
      · by_cases e0 : a = 0
        · exact .inr e0
        · exfalso
          apply h
          match b, hb with
          | 0, _ => exact dia_0 (by omega)
          | 1, _ => exact dia_1 (by omega) (by omega)
          | 2, _ => exact dia_2 (by omega) (by omega)
          | 3, _ => exact dia_3 (by omega) (by omega)
  · rintro (h | rfl)
    · exact .inl h
    · exact .inr rc_no0
theorem dia_tree {o : Nat → Option Nat} {pl : Nat → Nat} (hord : OrdOk diaG pl) (he : EndR diaG pl o) (hd : ∀ a k, Rc diaG (-1) k → (An o a k ↔ Dm diaG a k)) : tabI 4 (fun k => ovI (o k)) = [-1, 0, 0, 0] := by
  have h0 : o 0 = none := by
    cases h : o 0 with
    | none => rfl
    | some p => have := (he.w.wf _ _ h).2.2.1; have := hord.zero; omega
  have hk : ∀ k, k < 4 → k ≠ 0 → o k = some 0 := fun k hk hk0 => by
    obtain ⟨p, hp⟩ := Option.isSome_iff_exists.1 (he.all k (dia_k hk) hk0)
    have h1 := (dia_dm hk).1 ((hd p k (dia_k hk)).1 (An.one hp))
    have h2 := (he.w.wf _ _ hp).2.2.1
    rcases h1 with rfl | rfl
    · omega
    · exact hp
  show [ovI (o 0), ovI (o 1), ovI (o 2), ovI (o 3)] = _
  rw [h0, hk 1 (by omega) (by omega), hk 2 (by omega) (by omega), hk 3 (by omega) (by omega)]
  rfl
theorem dia_fr (a : Nat) (ha : a < 4) : frL diaG a = if a = 1 ∨ a = 2 then [3] else [] := by
  refine sorted_eq (frL_sorted a) (by split <;> simp) fun v => ?_
  rw [frL_mem]
  constructor
  · rintro ⟨b, rfl, _, hb, h1, q, hq, hqe, hqd⟩
    have hq4 := hq.lt
    have hb4 := hb.lt
    rw [dia_len] at hq4 hb4
    rw [dia_dm hq4] at hqd
    rw [dia_dm hb4] at h1
    rw [dia_edge] at hqe
    have h3 : b = 3 ∧ (a = 1 ∨ a = 2) := by omega
    rw [if_pos h3.2]
    simp [h3.1]
  · intro hv
    by_cases h : a = 1 ∨ a = 2
    · rw [if_pos h] at hv
      obtain rfl := List.mem_singleton.1 hv
      refine ⟨3, rfl, dia_k ha, dia_k (by omega), fun h1 => ?_, a, dia_k ha, dia_edge.2 (by omega), .inl rfl⟩
      rw [dia_dm (by omega)] at h1
      omega
    · rw [if_neg h] at hv
      simp at hv
theorem dia_frs : (List.range 4).map (frL diaG) = [[], [3], [3], []] := by
  show [frL diaG 0, frL diaG 1, frL diaG 2, frL diaG 3] = _
  rw [dia_fr 0 (by omega), dia_fr 1 (by omega), dia_fr 2 (by omega), dia_fr 3 (by omega)]
  rfl
theorem dia_no13 : ¬ (¬ Rc diaG (-1) 3 ∨ Dm diaG 1 3) := by
  rw [dia_dm (by omega)]
  rintro (h | h)
  · exact h (dia_k (by omega))
  · omega
theorem diaG_ok : ∀ l ∈ diaG, ∀ e ∈ l, 0 ≤ e ∧ e < (diaG.length : Int) := by rw [diaG_eq]; decide
end Go.Ss
namespace Go.Proofs.Ytehelljmaiophaa.ss
set_option linter.unusedVariables false
set_option linter.unusedSimpArgs false
set_option maxRecDepth 100000
open Go.Eng Go.RowKit Go.Ss
set_option linter.unusedVariables false
set_option linter.unusedSimpArgs false
theorem SameRowsD_calls (qa qb : Option Addr) (ca cb : Nat) (A B : List (List Int × Sc)) (w : World) (hA : Arr intsD w (low w) A qa) (hB : Arr intsD w (low w) B qb) (hla : A.length ≤ 1000000) (hlb : B.length ≤ 1000000) (hA1 : ∀ p ∈ A, p.1.length ≤ 1000000) (hB1 : ∀ p ∈ B, p.1.length ≤ 1000000) :
    Calls Try.prog 55 [.slice qa A.length ca, .slice qb B.length cb].toArray w fun e w' => e = .returned (.bool (decide (A.map Prod.fst = B.map Prod.fst))) ∧ Ext w w' := by
  refine enter Try.func55 rfl Try.ntmps55 rfl (Cls.start w) ?_
  (simp only [argEnv, Nat.zero_add, Nat.reduceAdd])
  apply W.sr
  apply oas; rfl; rfl
  apply OL.nx
  apply W.seq
  apply W.sr
  apply omv; rfl; rfl
  apply oop; rfl; apply Pev.len_slice; rfl; exact yes; rfl
  apply omv; rfl; rfl
  apply oop; rfl; apply Pev.len_slice; rfl; exact yes; rfl
  apply obn; rfl; rfl; rfl; apply Bin.neq
  apply OL.nx
  (refine W.cnd (fun hne => ?_) (fun hne => ?_)) <;> (try (exfalso; first | omega | exact hne trivial | contradiction))
  · apply W.sr
    apply oas; rfl; rfl
    apply OL.nx
    refine W.rt ?_
    ((with_reducible apply At.fin1); rfl; rfl; intro w' hw')
    have : ¬ A.map Prod.fst = B.map Prod.fst := fun e => by
      have := congrArg List.length e
      simp at this
      omega
    exact ⟨by rw [decide_eq_false this], by (exact hw'.fr)⟩
  have hlen : A.length = B.length := by omega
  apply W.sk
  apply W.seq
  apply W.sr
  apply omv; rfl; rfl
  apply oop; rfl; apply Pev.len_slice; rfl; exact yes; rfl
  apply omv; rfl; rfl
  apply OL.nx
  apply W.block
  refine W.loop (G := Nat) (fun i => i ≤ A.length ∧ ∀ j, j < i → (A.map Prod.fst)[j]? = (B.map Prod.fst)[j]?) (fun i => A.length - i)
    (fun i => [(14, true, .int .i64 (i : Int)), (13, true, .int .i64 (A.length : Int)), (12, true, .slice qa A.length ca), (1, true, .slice qb B.length cb)])
    (fun i => Cls [] [w]) 0 ⟨by omega, fun j hj => by omega⟩ (by exact Sub.au) (fun w' hw' => hw') ?_
  rintro i ⟨hi, hsame⟩
  apply W.sr
  apply obn; rfl; rfl; rfl; apply Bin.lss
  apply OL.nx
  apply W.seq
  (refine W.cnd (fun hlt => ?_) (fun hlt => ?_)) <;> (try (exfalso; first | omega | exact hlt trivial | contradiction))
  · obtain ⟨a, p, rfl, hab, hp, hcell, hok⟩ := hA.get (show i < A.length by omega)
    obtain ⟨a2, p2, rfl, hab2, hp2, hcell2, hok2⟩ := hB.get (show i < B.length by omega)
    have hab : a.block < w.heap.size := hab
    have hab2 : a2.block < w.heap.size := hab2
    have hok : IntsO w (low w) p.1 p.2.1 := hok
    have hok2 : IntsO w (low w) p2.1 p2.2.1 := hok2
    have hc : w.cell? (a.add (i * 1)) = some (.slice p.2.1 p.1.length p.2.2) := by have := hcell 0 _ (show ([slID p] : List Value)[0]? = some _ from rfl); rwa [add_zero_] at this
    have hc2 : w.cell? (a2.add (i * 1)) = some (.slice p2.2.1 p2.1.length p2.2.2) := by have := hcell2 0 _ (show ([slID p2] : List Value)[0]? = some _ from rfl); rwa [add_zero_] at this
    have hl1 := hA1 p (List.mem_of_getElem? hp)
    have hl2 := hB1 p2 (List.mem_of_getElem? hp2)
    apply W.sk
    apply W.sb
    apply W.sr
    apply omv; rfl; rfl
    apply oop; rfl; apply Pev.idx; rfl; exact yes; rfl; exact yes; rfl; rfl; intro hcond; omega
    apply oop; rfl; apply Pev.load_kept; rfl; exact yes; exact .head _; rfl; intro hcond; assumption; intro hcond; (rw [add_block]; assumption); intro hcond; exact NotOwned.au
    apply oas; rfl; rfl
    apply oas; rfl; rfl
    apply OL.nsr
    apply omv; rfl; rfl
    apply omv; rfl; rfl
    apply omv; rfl; rfl
    apply oop; rfl; apply Pev.idx; rfl; exact yes; rfl; exact yes; rfl; rfl; intro hcond; omega
    apply oop; rfl; apply Pev.load_kept; rfl; exact yes; exact .head _; rfl; intro hcond; assumption; intro hcond; (rw [add_block]; assumption); intro hcond; exact NotOwned.au
    (((first | (with_reducible apply OL.op) | (with_reducible apply QL.op)); (exact Guard.au); rfl; rfl); (exact Pev.call (v := .bool (decide (p.1 = p2.1))) rfl (by exact Args.au) (fun _ w2 hw2 => (SameInts_calls p.2.1 p2.2.1 p.2.2 p2.2.2 p.1 p2.1 w2 (by omega) (by omega) (hok.at hw2 (by exact mau) (fun k hk => NotOwned.nil)) (hok2.at hw2 (by exact mau) (fun k hk => NotOwned.nil))).mono (fun e w3 h => ⟨h.1, hw2.ext h.2⟩))))
    apply oop; rfl; apply Pev.not; rfl; exact yes
    apply OL.nx
    refine W.cond rfl (fun hd => ?_) (fun hd => ?_)
    · apply W.sr
      apply oas; rfl; rfl
      apply OL.nx
      refine W.rt ?_
      ((with_reducible apply At.fin1); rfl; rfl; intro w' hw')
      have hd2 : ¬ p.1 = p2.1 := by simpa using hd
      have : ¬ A.map Prod.fst = B.map Prod.fst := fun e => by
        have h1 : (A.map Prod.fst)[i]? = some p.1 := by rw [List.getElem?_map, hp]; rfl
        rw [e, List.getElem?_map, hp2] at h1
        exact hd2 (Option.some.inj h1).symm
      exact ⟨by rw [decide_eq_false this], by (exact hw'.fr)⟩
    · have hd2 : p.1 = p2.1 := by simpa using hd
      apply W.skip
      with_reducible apply At.in_normal
      with_reducible apply At.next
      apply W.reg
      apply obn; rfl; rfl; rfl; apply Bin.add_in; omega
      apply omv; rfl; rfl
      apply OL.nil
      refine At.again (i + 1) ⟨by omega, fun j hj => ?_⟩ (by omega) (by exact Sub.au) (fun w' hw' => hw')
      by_cases hji : j = i
      · subst hji
        rw [List.getElem?_map, List.getElem?_map, hp, hp2]
        simp [hd2]
      · exact hsame j (by omega)
  · refine W.xt ?_
    with_reducible apply At.next
    apply W.sr
    apply oas; rfl; rfl
    apply OL.nx
    apply W.ret
    ((with_reducible apply At.fin1); rfl; rfl; intro w' hw')
    have : A.map Prod.fst = B.map Prod.fst := List.ext_getElem? fun j => by
      rcases Nat.lt_or_ge j A.length with h | h
      · exact hsame j (by omega)
      · rw [List.getElem?_eq_none (by simp; omega), List.getElem?_eq_none (by simp; omega)]
    exact ⟨by rw [decide_eq_true this], by (exact hw'.fr)⟩
theorem domWorks_calls (w : World) : Calls Try.prog 42 #[] w fun e w' => e = .returned (.bool true) ∧ Ext w w' := by
  have hord := ordOk diaG_ok (by rw [dia_len]; omega)
  have hTree := fun y w h => DTree_calls dia y w h
  have hFro := fun y w h => DFrontier_calls dia y w h
  have hDom := fun y w h => DDominates_calls dia y 1 3 w h
  simp only [dia_ok, show graphB dia.blocks = diaG from rfl, show dia.blocks.length = 4 from rfl] at hTree hFro hDom
  refine enter Try.func42 rfl Try.ntmps42 rfl (Cls.start w) ?_
  (simp only [argEnv, Nat.zero_add, Nat.reduceAdd])
  apply W.sr
  apply oas; rfl; rfl
  apply OL.nsr
  refine OL.callE (α := FnY × World) (fun z => .agg (fnC dia z.1).toArray) (fun z => FnOk z.2 (low z.2) dia z.1) (fun z => Cls [] [z.2, w]) rfl rfl (by exact Args.au) (fun w2 hw2 => (diamond_calls w2).mono fun e w3 ⟨y, h1, h2, h3⟩ => ⟨(y, w3), h1, h3, (hw2.ext h2).note⟩) ?_
  rintro ⟨y1, w1⟩ hf1
  simp only at hf1 ⊢
  skip
  refine OL.callE (α := Nat × World) (fun z => .tuple #[.slice (some ⟨z.1, 0, none⟩) 4 4, .int .i64 0]) (fun z => IntsO z.2 (low z.2) [-1, 0, 0, 0] (some ⟨z.1, 0, none⟩)) (fun z => Cls [] [z.2, w]) rfl rfl (by exact Args.au) (fun w2 hw2 => (hTree y1 w2 (fnR.mono (hw2.up (.head _)) (fnR.stab (hw2.same (.head _) (fun k hk => NotOwned.nil)) hf1))).mono fun e w3 ⟨h1, h2⟩ => ?_) ?_
  · rcases h2 with ⟨h2, _⟩ | ⟨_, bI, o, h2, h3, h4, h5⟩
    · exact absurd rfl h2
    · rw [dia_tree hord h4 h5] at h3
      exact ⟨(bI, w3), h2, h3, ((hw2.ext h1).forget (by simp)).note⟩
  rintro ⟨bI, w2⟩ hI2
  simp only at hI2 ⊢
  apply omv; rfl; rfl
  apply oex; rfl; rfl; rfl
  apply oex; rfl; rfl; rfl
  apply oas; rfl; rfl
  apply oas; rfl; rfl
  apply OL.nsr
  refine OL.callE (α := FnY × World) (fun z => .agg (fnC dia z.1).toArray) (fun z => FnOk z.2 (low z.2) dia z.1) (fun z => Cls [] [z.2, w2, w]) rfl rfl (by exact Args.au) (fun w3 hw3 => (diamond_calls w3).mono fun e w4 ⟨y, h1, h2, h3⟩ => ⟨(y, w4), h1, h3, (hw3.ext h2).note⟩) ?_
  rintro ⟨y3, w3⟩ hf3
  simp only at hf3 ⊢
  skip
  refine OL.callE (α := (Nat × List (List Int × Sc)) × World) (fun z => .tuple #[.slice (some ⟨z.1.1, 0, none⟩) 4 4, .int .i64 0]) (fun z => z.1.2.map Prod.fst = [[], [3], [3], []] ∧ z.1.2.length = 4 ∧ Arr intsD z.2 (low z.2) z.1.2 (some ⟨z.1.1, 0, none⟩)) (fun z => Cls [] [z.2, w2, w]) rfl rfl (by exact Args.au) (fun w4 hw4 => (hFro y3 w4 (fnR.mono (hw4.up (.head _)) (fnR.stab (hw4.same (.head _) (fun k hk => NotOwned.nil)) hf3))).mono fun e w5 ⟨h1, h2⟩ => ?_) ?_
  · rcases h2 with ⟨h2, _⟩ | ⟨_, bO, h2, h3, h4⟩
    · exact absurd rfl h2
    · obtain ⟨A, h5, h6, h7⟩ := arrRows h3 h4
      rw [dia_frs] at h5
      exact ⟨((bO, A), w5), h2, ⟨h5, h6, h7⟩, ((hw4.ext h1).forget (by simp)).note⟩
  rintro ⟨⟨bO, A⟩, w4⟩ ⟨hAm, hAl, hA⟩
  simp only at hAm hAl hA ⊢
  apply omv; rfl; rfl
  apply oex; rfl; rfl; rfl
  apply oex; rfl; rfl; rfl
  apply oas; rfl; rfl
  apply oas; rfl; rfl
  apply OL.nsr
  refine OL.callE (α := FnY × World) (fun z => .agg (fnC dia z.1).toArray) (fun z => FnOk z.2 (low z.2) dia z.1) (fun z => Cls [] [z.2, w4, w2, w]) rfl rfl (by exact Args.au) (fun w3 hw3 => (diamond_calls w3).mono fun e w4 ⟨y, h1, h2, h3⟩ => ⟨(y, w4), h1, h3, (hw3.ext h2).note⟩) ?_
  rintro ⟨y5, w5⟩ hf5
  simp only at hf5 ⊢
  skip
  refine OL.callE (α := Unit) (fun z => .tuple #[.bool false, .int .i64 0]) (fun z => True) (fun z => Cls [] [w4, w2, w]) rfl rfl (by exact Args.au) (fun w6 hw6 => (hDom y5 w6 (fnR.mono (hw6.up (.head _)) (fnR.stab (hw6.same (.head _) (fun k hk => NotOwned.nil)) hf5))).mono fun e w7 ⟨h1, h2⟩ => ?_) ?_
  · rcases h2 with ⟨h2, _⟩ | ⟨_, ⟨h2, _⟩ | ⟨x, z, r, hx, hz, _, _, h2, h3⟩⟩
    · exact absurd rfl h2
    · exact absurd h2 (by decide)
    · obtain rfl : x = 1 := by omega
      obtain rfl : z = 3 := by omega
      obtain rfl : r = false := Bool.eq_false_iff.2 fun h => dia_no13 (h3.1 h)
      exact ⟨(), h2, trivial, (hw6.ext h1).forget (by simp)⟩
  rintro _ _
  apply omv; rfl; rfl
  apply oex; rfl; rfl; rfl
  apply oex; rfl; rfl; rfl
  apply oas; rfl; rfl
  apply oas; rfl; rfl
  apply OL.nsr
  apply omv; rfl; rfl
  apply obn; rfl; rfl; rfl; apply Bin.eql
  apply omv; rfl; rfl
  apply oy; rfl; rfl; rfl; apply Pev.move; rfl; exact yes
  ((apply OL.ungate); (exact Guard.au); (decide))
  apply OL.buildSlice; rfl; rfl; rfl; exact Elems.au; rfl; rfl; (intro bk hbk; simp only [AllLe, and_true] at hbk)
  revert bk
  intro b26 hb26
  have hb262 : w2.heap.size ≤ b26 := by first | exact hb26.2.1 | exact hb26.1 | omega
  have hb264 : w4.heap.size ≤ b26 := by first | exact hb26.1 | exact hb26 | omega
  (((first | (with_reducible apply OL.op) | (with_reducible apply QL.op)); (exact Guard.au); rfl; rfl); (exact Pev.call (v := .bool true) rfl (by exact Args.au) (fun _ w5 hw5 => (SameInts_calls (some ⟨bI, 0, none⟩) (some ⟨b26, 0, none⟩) 4 4 [-1, 0, 0, 0] [-1, 0, 0, 0] w5 (by simp) (by simp) (hI2.at hw5 (.tail _ (.head _)) (fun k hk => NotOwned.blk (by omega) NotOwned.nil)) (blkInts (hw5.item (.head _)))).mono (fun e w6 h => ⟨by rw [h.1]; rfl, hw5.ext h.2⟩))))
  apply oop; rfl; apply Pev.pick_and; rfl; exact yes; rfl; exact yes
  apply omv; rfl; rfl
  apply oy; rfl; rfl; rfl; apply Pev.move; rfl; exact yes
  apply oy; rfl; rfl; rfl; apply Pev.bin; rfl; exact yes; rfl; exact yes; intro hcond; apply Bin.eql
  apply oop; rfl; apply Pev.pick_and; rfl; exact yes; rfl; exact yes
  apply omv; rfl; rfl
  apply oy; rfl; rfl; rfl; apply Pev.move; rfl; exact yes
  ((apply OL.ungate); (exact Guard.au); (decide))
  apply OL.buildSlice; rfl; rfl; rfl; exact Elems.au; rfl; rfl; (intro bk hbk; simp only [AllLe, and_true] at hbk)
  revert bk
  intro b35 hb35
  have hb354 : w4.heap.size ≤ b35 := by first | exact hb35.1 | exact hb35 | omega
  ((apply OL.ungate); (exact Guard.au); (decide))
  apply OL.buildSlice; rfl; rfl; rfl; exact Elems.au; rfl; rfl; (intro bk hbk; simp only [AllLe, and_true] at hbk)
  revert bk
  intro b36 hb36
  have hb364 : w4.heap.size ≤ b36 := by first | exact hb36.1 | exact hb36 | omega
  ((apply OL.ungate); (exact Guard.au); (decide))
  apply OL.buildSlice; rfl; rfl; rfl; exact Elems.au; rfl; rfl; (intro bk hbk; simp only [AllLe, and_true] at hbk)
  revert bk
  intro b37 hb37
  have hb374 : w4.heap.size ≤ b37 := by first | exact hb37.1 | exact hb37 | omega
  have hA1 : ∀ p ∈ A, p.1.length ≤ 1000000 := fun p hp => by
    have h1 : p.1 ∈ A.map Prod.fst := List.mem_map_of_mem hp
    rw [hAm] at h1
    simp at h1
    rcases h1 with h1 | h1 | h1 <;> rw [h1] <;> simp
  have hS := fun w2 (h : Arr intsD w2 (low w2) A (some ⟨bO, 0, none⟩)) (h2 : Arr intsD w2 (low w2) [([], (none, 0)), ([3], (some (⟨b35, 0, none⟩ : Addr), 1)), ([3], (some (⟨b36, 0, none⟩ : Addr), 1)), ([], (none, 0))] (some ⟨b37, 0, none⟩)) => SameRowsD_calls (some ⟨bO, 0, none⟩) (some ⟨b37, 0, none⟩) 4 4 A [([], (none, 0)), ([3], (some (⟨b35, 0, none⟩ : Addr), 1)), ([3], (some (⟨b36, 0, none⟩ : Addr), 1)), ([], (none, 0))] w2 h h2 (by omega) (by simp) hA1 (by simp)
  simp only [hAl, hAm] at hS
  (((first | (with_reducible apply OL.op) | (with_reducible apply QL.op)); (exact Guard.au); rfl; rfl); (exact Pev.call (v := .bool true) rfl (by exact Args.au) (fun _ w5 hw5 => (hS w5 (hA.at hw5 (by exact mau) (fun k hk => NotOwned.blk (by omega) (NotOwned.blk (by omega) (NotOwned.blk (by omega) (NotOwned.blk (by omega) NotOwned.nil))))) (arrBlk (e := 35) (hw5.item (by exact mau)) (fun p hp => by
    simp only [List.mem_cons, List.not_mem_nil, or_false] at hp
    rcases hp with rfl | rfl | rfl | rfl
    · exact nilS _ _
    · exact blkInts (e := 3) (hw5.item (by exact mau))
    · exact blkInts (e := 3) (hw5.item (by exact mau))
    · exact nilS _ _))).mono (fun e w6 h => ⟨by rw [h.1]; rfl, hw5.ext h.2⟩))))
  apply oop; rfl; apply Pev.pick_and; rfl; exact yes; rfl; exact yes
  apply omv; rfl; rfl
  apply oy; rfl; rfl; rfl; apply Pev.move; rfl; exact yes
  apply oy; rfl; rfl; rfl; apply Pev.bin; rfl; exact yes; rfl; exact yes; intro hcond; apply Bin.eql
  apply oop; rfl; apply Pev.pick_and; rfl; exact yes; rfl; exact yes
  apply omv; rfl; rfl
  apply oy; rfl; rfl; rfl; apply Pev.move; rfl; exact yes
  apply oy; rfl; rfl; rfl; apply Pev.not; rfl; exact yes
  apply oop; rfl; apply Pev.pick_and; rfl; exact yes; rfl; exact yes
  apply oas; rfl; rfl
  apply OL.nx
  apply W.ret
  ((with_reducible apply At.fin1); rfl; rfl; intro w' hw')
  have h26 : w.heap.size ≤ b26 := hb26.2.2
  have h35 : w.heap.size ≤ b35 := hb35.2.2
  have h36 : w.heap.size ≤ b36 := hb36.2.2
  have h37 : w.heap.size ≤ b37 := hb37.2.2
  exact ⟨rfl, hw'.toExt (by exact mau) (fun k hk => NotOwned.blk (by omega) (NotOwned.blk (by omega) (NotOwned.blk (by omega) (NotOwned.blk (by omega) NotOwned.nil))))⟩
end Go.Proofs.Ytehelljmaiophaa.ss

/- The law DomTree. Conditions: none. -/
namespace Go.Ss
set_option linter.unusedVariables false
set_option linter.unusedSimpArgs false
open Classical in
noncomputable def ovB (G : List (List Int)) (a b : Nat) : Bool := decide (Dm G a b)
theorem ovB_iff {G : List (List Int)} {a b : Nat} : ovB G a b = true ↔ Dm G a b := by simp [ovB]
theorem ovB_not {G : List (List Int)} {a b : Nat} : ovB G a b = false ↔ ¬ Dm G a b := by simp [ovB]
theorem inB_nat {n x t : Nat} (hx : x < n) (ht : t < n) : inB n (x : Int) (t : Int) = true := by
  simp [inB]
  omega
theorem inB_no {n : Nat} {a b : Int} (h : inB n a b = false) : a < 0 ∨ b < 0 ∨ (n : Int) ≤ a ∨ (n : Int) ≤ b := by
  apply Classical.byContradiction
  intro h1
  obtain ⟨x, rfl⟩ : ∃ x : Nat, a = x := ⟨a.toNat, by omega⟩
  obtain ⟨t, rfl⟩ : ∃ x : Nat, b = x := ⟨b.toNat, by omega⟩
  rw [inB_nat (by omega) (by omega)] at h
  cases h
end Go.Ss
namespace Go.Proofs.Ytehelljmaiophaa.ss
set_option linter.unusedVariables false
set_option linter.unusedSimpArgs false
set_option maxRecDepth 100000
open Go.Eng Go.RowKit Go.Ss
set_option linter.unusedVariables false
set_option linter.unusedSimpArgs false
theorem Over_ext (es : List (Bk × BkY)) (q : Option Addr) (cap : Nat) (nm : Int) (a b : Nat) (w : World) (he : Arr bkR w (low w) es q) (hlen : es.length ≤ 140737488355328) (hb : b < es.length) :
    Calls Try.prog 49 [.agg #[.int .i64 nm, .slice q es.length cap], .int .i64 (a : Int), .int .i64 (b : Int)].toArray w fun e w' => e = .returned (.bool (ovB (graphB (es.map Prod.fst)) a b)) ∧ Ext w w' :=
  (Over_calls es q cap nm a b w he hlen hb).mono fun e w' ⟨r, h1, h2, h3⟩ => by
    refine ⟨?_, h3⟩
    rw [h1, show r = ovB (graphB (es.map Prod.fst)) a b by rw [Bool.eq_iff_iff, ovB_iff]; exact h2]
theorem domTree_law (fn : Go.Ss.Fn) (y : FnY) (a b : Int) (w : World) (hfn : FnOk w (low w) fn y) :
    Calls Try.prog 9 [.agg (fnC fn y).toArray, .int .i64 a, .int .i64 b].toArray w fun e w' => e = .returned (.bool true) ∧ Ext w w' := by
  have hfn0 := hfn
  obtain ⟨es, hes, he⟩ := hfn.b
  obtain ⟨nm, bs⟩ := fn
  obtain ⟨q, cap⟩ := y
  have hbl := hfn.bl
  simp only at hes he hbl
  have hbl2 : bs.length = es.length := by rw [← hes, List.length_map]
  have hF : ∀ (H : List Eng.Item) (S : List World) (w2 : World), Cls H S w2 → w ∈ S → (∀ k, k < w.heap.size → NotOwned H k) → FnOk w2 (low w2) ⟨nm, bs⟩ ⟨q, cap⟩ := fun H S w2 hw2 hs hno => fnR.mono (hw2.up hs) (fnR.stab (hw2.same hs hno) hfn0)
  have hcC : (fnC ⟨nm, bs⟩ ⟨q, cap⟩) = [.int .i64 nm, .slice q es.length cap] := by simp only [fnC]; rw [hbl2]
  rw [hcC]
  refine enter Try.func9 rfl Try.ntmps9 rfl (Cls.start w) ?_
  (simp only [argEnv, Nat.zero_add, Nat.reduceAdd])
  apply W.sr
  apply OL.box; rfl; rfl; exact CellsL.agg; (intro bk hbk; simp only [AllLe, and_true] at hbk)
  apply oas; rfl; rfl
  apply OL.nx
  apply W.seq
  apply W.sr
  revert bk
  intro bF hbF
  have hbF1 : w.heap.size ≤ bF := by first | exact hbF | exact hbF.1
  refine OL.frzD (C' := fun w0 => Cls [] [w0, w]) (fun w0 hc0 => (hc0.thin (.any (fun k hk => by rw [show k = bF from hk]; exact ⟨hbF1, trivial⟩) Thin.nil)).note) (fun w0 hc0 => ?_)
  have hbF0 : bF < w0.heap.size := blk_lt (hc0.item (.head _))
  have hcF : CellsAt w0 ⟨bF, 0, none⟩ [.int .i64 nm, .slice q es.length cap] := fun j v hj => by
    rw [add_mid, blk_cell (hc0.item (.head _)), Nat.zero_add]
    exact hj
  have hcF1 : w0.cell? ⟨bF, 0 + 1, none⟩ = some (.slice q es.length cap) := hcF 1 _ rfl
  (((first | (with_reducible apply OL.op) | (with_reducible apply QL.op)); (exact Guard.au); rfl; rfl); (exact Pev.call (v := .bool true) rfl (by exact Args.au) (fun _ w2 hw2 => (domWorks_calls w2).mono (fun e w3 h => ⟨h.1, hw2.ext h.2⟩))))
  apply oop; rfl; apply Pev.not; rfl; exact yes
  apply OL.nx
  refine W.cond rfl (fun h => by cases h) (fun _ => ?_)
  apply W.sk
  apply W.seq
  apply W.sr
  apply oop; rfl; apply Pev.load_keptA; rfl; exact yes; exact .head _; rfl; intro hcond; assumption; rfl; intro hcond; assumption; intro hcond; exact NotOwned.au
  (((first | (with_reducible apply OL.op) | (with_reducible apply QL.op)); (exact Guard.au); rfl; rfl); (exact Pev.call (v := .bool (decide (es.length ≤ 12) && decide (freshF bs ≤ 200))) rfl (by exact Args.au) (fun _ w2 hw2 => (few_calls es q cap nm w2 (he.at hw2 (by exact mau) (fun k hk => NotOwned.nil)) (by omega)).mono (fun e w3 h => ⟨by rw [h.1, hes], hw2.ext h.2⟩))))
  apply oop; rfl; apply Pev.not; rfl; exact yes
  apply OL.nx
  refine W.cond rfl (fun h1 => ?_) (fun h1 => ?_)
  · apply W.sr
    apply oas; rfl; rfl
    apply OL.nx
    refine W.rt ?_
    ((with_reducible apply At.fin1); rfl; rfl; intro w' hw')
    exact ⟨rfl, by (exact hw'.fr)⟩
  have h12 : es.length ≤ 12 := by simp at h1; omega
  obtain ⟨er, her⟩ : ∃ er, funcE ⟨nm, bs⟩ = er := ⟨_, rfl⟩
  have hTr := fun w2 (H : List Eng.Item) (S : List World) hw2 hs hno => DTree_calls ⟨nm, bs⟩ ⟨q, cap⟩ w2 (hF H S w2 hw2 hs hno)
  have hDo := fun w2 (H : List Eng.Item) (S : List World) hw2 hs hno => DDominates_calls ⟨nm, bs⟩ ⟨q, cap⟩ a b w2 (hF H S w2 hw2 hs hno)
  have hCl := fun w2 (H : List Eng.Item) (S : List World) hw2 hs hno => DClosest_calls ⟨nm, bs⟩ ⟨q, cap⟩ a b w2 (hF H S w2 hw2 hs hno)
  have hFe := fun w2 (H : List Eng.Item) (S : List World) hw2 hs hno => FuncErr_calls ⟨nm, bs⟩ ⟨q, cap⟩ w2 (hF H S w2 hw2 hs hno)
  rw [hcC] at hTr hDo hCl hFe
  simp only [her, hbl2] at hTr hDo hCl hFe
  by_cases hne : er ≠ 0
  · apply W.sk
    apply W.sr
    apply oop; rfl; apply Pev.load_keptA; rfl; exact yes; exact .head _; rfl; intro hcond; assumption; rfl; intro hcond; assumption; intro hcond; exact NotOwned.au
    (((first | (with_reducible apply OL.op) | (with_reducible apply QL.op)); (exact Guard.au); rfl; rfl); (exact Pev.call (v := .tuple #[.slice none 0 0, .int .i64 er]) rfl (by exact Args.au) (fun _ w2 hw2 => (hTr w2 _ _ hw2 (by exact mau) (fun k hk => NotOwned.nil)).mono (fun e w3 h => ⟨by rcases h.2 with h2 | h2; exact h2.2; exact absurd h2.1 hne, hw2.ext h.1⟩))))
    apply omv; rfl; rfl
    apply oex; rfl; rfl; rfl
    apply oex; rfl; rfl; rfl
    apply oas; rfl; rfl
    apply oas; rfl; rfl
    apply OL.nsr
    apply oop; rfl; apply Pev.load_keptA; rfl; exact yes; exact .head _; rfl; intro hcond; assumption; rfl; intro hcond; assumption; intro hcond; exact NotOwned.au
    apply omv; rfl; rfl
    apply omv; rfl; rfl
    (((first | (with_reducible apply OL.op) | (with_reducible apply QL.op)); (exact Guard.au); rfl; rfl); (exact Pev.call (v := .tuple #[.bool false, .int .i64 er]) rfl (by exact Args.au) (fun _ w2 hw2 => (hDo w2 _ _ hw2 (by exact mau) (fun k hk => NotOwned.nil)).mono (fun e w3 h => ⟨by rcases h.2 with h2 | h2; exact h2.2; exact absurd h2.1 hne, hw2.ext h.1⟩))))
    apply omv; rfl; rfl
    apply oex; rfl; rfl; rfl
    apply oex; rfl; rfl; rfl
    apply oas; rfl; rfl
    apply oas; rfl; rfl
    apply OL.nsr
    apply oop; rfl; apply Pev.load_keptA; rfl; exact yes; exact .head _; rfl; intro hcond; assumption; rfl; intro hcond; assumption; intro hcond; exact NotOwned.au
    apply omv; rfl; rfl
    apply omv; rfl; rfl
    (((first | (with_reducible apply OL.op) | (with_reducible apply QL.op)); (exact Guard.au); rfl; rfl); (exact Pev.call (v := .tuple #[.int .i64 0, .int .i64 er]) rfl (by exact Args.au) (fun _ w2 hw2 => (hCl w2 _ _ hw2 (by exact mau) (fun k hk => NotOwned.nil)).mono (fun e w3 h => ⟨by rcases h.2 with h2 | h2; exact h2.2; exact absurd h2.1 hne, hw2.ext h.1⟩))))
    apply omv; rfl; rfl
    apply oex; rfl; rfl; rfl
    apply oex; rfl; rfl; rfl
    apply oas; rfl; rfl
    apply oas; rfl; rfl
    apply OL.nx
    apply W.seq
    apply W.sr
    apply oop; rfl; apply Pev.load_keptA; rfl; exact yes; exact .head _; rfl; intro hcond; assumption; rfl; intro hcond; assumption; intro hcond; exact NotOwned.au
    (((first | (with_reducible apply OL.op) | (with_reducible apply QL.op)); (exact Guard.au); rfl; rfl); (exact Pev.call (v := .int .i64 er) rfl (by exact Args.au) (fun _ w2 hw2 => (hFe w2 _ _ hw2 (by exact mau) (fun k hk => NotOwned.nil)).mono (fun e w3 h => ⟨h.1, hw2.ext h.2⟩))))
    apply oas; rfl; rfl
    apply OL.nsr
    apply omv; rfl; rfl
    apply obn; rfl; rfl; rfl; apply Bin.neq
    apply OL.nx
    refine W.cond rfl (fun _ => ?_) (fun h => by simp at h; exact absurd h hne)
    apply W.sr
    apply omv; rfl; rfl
    apply omv; rfl; rfl
    apply obn; rfl; rfl; rfl; apply Bin.eql
    apply omv; rfl; rfl
    apply oy; rfl; rfl; rfl; apply Pev.move; rfl; exact yes
    apply oy; rfl; rfl; rfl; apply Pev.move; rfl; exact yes
    apply oy; rfl; rfl; rfl; apply Pev.bin; rfl; exact fun h => h; rfl; exact fun h => h; intro hcond; apply Bin.eql
    apply oop; rfl; apply Pev.pick_and; rfl; exact yes; rfl; exact fun h => h
    apply omv; rfl; rfl
    apply oy; rfl; rfl; rfl; apply Pev.move; rfl; exact yes
    apply oy; rfl; rfl; rfl; apply Pev.move; rfl; exact yes
    apply oy; rfl; rfl; rfl; apply Pev.bin; rfl; exact fun h => h; rfl; exact fun h => h; intro hcond; apply Bin.eql
    apply oop; rfl; apply Pev.pick_and; rfl; exact yes; rfl; exact fun h => h
    apply omv; rfl; rfl
    apply oy; rfl; rfl; rfl; apply Pev.move; rfl; exact yes
    apply oy; rfl; rfl; rfl; apply Pev.len_slice; rfl; exact fun h => h; rfl
    apply oy; rfl; rfl; rfl; apply Pev.bin; rfl; exact fun h => h; rfl; exact yes; intro hcond; apply Bin.eql
    apply oop; rfl; apply Pev.pick_and; rfl; exact yes; rfl; exact fun h => h
    apply omv; rfl; rfl
    apply oy; rfl; rfl; rfl; apply Pev.move; rfl; exact yes
    apply oy; rfl; rfl; rfl; apply Pev.not; rfl; exact fun h => h
    apply oop; rfl; apply Pev.pick_and; rfl; exact yes; rfl; exact fun h => h
    apply omv; rfl; rfl
    apply oy; rfl; rfl; rfl; apply Pev.move; rfl; exact yes
    apply oy; rfl; rfl; rfl; apply Pev.bin; rfl; exact fun h => h; rfl; exact yes; intro hcond; apply Bin.eql
    apply oop; rfl; apply Pev.pick_and; rfl; exact yes; rfl; exact fun h => h
    apply oas; rfl; rfl
    apply OL.nx
    refine W.rt ?_
    ((with_reducible apply At.fin1); rfl; rfl; intro w' hw')
    exact ⟨by simp, by (exact hw'.fr)⟩
  have he0 : er = 0 := Classical.not_not.1 hne
  subst he0
  obtain ⟨h0, h128, hs0⟩ := func_zero her
  simp only at h0 h128 hs0
  obtain ⟨G, hG⟩ : ∃ G, graphB bs = G := ⟨_, rfl⟩
  have hGl : G.length = es.length := by rw [← hG]; simp [graphB, hbl2]
  have hGE : ∀ l ∈ G, ∀ x ∈ l, 0 ≤ x ∧ x < (G.length : Int) := fun l hl x hx => by
    rw [← hG] at hl
    obtain ⟨b, hb, rfl⟩ := List.mem_map.1 hl
    obtain ⟨e, he, rfl⟩ := List.mem_map.1 hx
    have := shape_edges hs0 b hb e he
    omega
  have hord := ordOk hGE (by omega)
  have hRe := fun v w2 (H : List Eng.Item) (S : List World) (hw2 : Cls H S w2) (hs : w ∈ S) (hno : ∀ k, k < w.heap.size → NotOwned H k) => Reach_ext es q cap nm v w2 (he.at hw2 hs hno) (by omega)
  have hOv := fun a b w2 (H : List Eng.Item) (S : List World) (hw2 : Cls H S w2) (hs : w ∈ S) (hno : ∀ k, k < w.heap.size → NotOwned H k) => Over_ext es q cap nm a b w2 (he.at hw2 hs hno) (by omega)
  simp only [hes, hG] at hRe hOv
  rw [hG] at hTr hDo hCl
  apply W.sk
  apply W.sr
  apply oop; rfl; apply Pev.load_keptA; rfl; exact yes; exact .head _; rfl; intro hcond; assumption; rfl; intro hcond; assumption; intro hcond; exact NotOwned.au
  refine OL.callE (α := (Nat × (Nat → Option Nat)) × World) (fun z => .tuple #[.slice (some ⟨z.1.1, 0, none⟩) es.length es.length, .int .i64 0]) (fun z => IntsO z.2 (low z.2) (tabI es.length fun k => ovI (z.1.2 k)) (some ⟨z.1.1, 0, none⟩) ∧ EndR G (plN G) z.1.2 ∧ ∀ a k, Rc G (-1) k → (An z.1.2 a k ↔ Dm G a k)) (fun z => Cls [] [z.2, w0, w]) rfl rfl (by exact Args.au) (fun w2 hw2 => (hTr w2 _ _ hw2 (by exact mau) (fun k hk => NotOwned.nil)).mono fun e w3 ⟨h2, h3⟩ => ?_) ?_
  · rcases h3 with ⟨h3, _⟩ | ⟨_, bI, o, h4, h5, h6⟩
    · exact absurd rfl h3
    · exact ⟨((bI, o), w3), h4, ⟨h5, h6⟩, (hw2.ext h2).note⟩
  rintro ⟨⟨bI, o⟩, wT⟩ ⟨hII, hend, hdm⟩
  simp only at hII hend hdm ⊢
  apply omv; rfl; rfl
  apply oex; rfl; rfl; rfl
  apply oex; rfl; rfl; rfl
  apply oas; rfl; rfl
  apply oas; rfl; rfl
  apply OL.nsr
  apply oop; rfl; apply Pev.load_keptA; rfl; exact yes; exact .tail _ (.head _); rfl; intro hcond; assumption; rfl; intro hcond; assumption; intro hcond; exact NotOwned.au
  apply omv; rfl; rfl
  apply omv; rfl; rfl
  refine OL.callE (α := Bool × Int) (fun z => .tuple #[.bool z.1, .int .i64 z.2]) (fun z => (inB es.length a b = false ∧ z = (false, 4)) ∨ ∃ x t : Nat, a = (x : Int) ∧ b = (t : Int) ∧ x < es.length ∧ t < es.length ∧ z.2 = 0 ∧ (z.1 = true ↔ ¬ Rc G (-1) t ∨ Dm G x t)) (fun z => Cls [] [wT, w0, w]) rfl rfl (by exact Args.au) (fun w2 hw2 => (hDo w2 _ _ hw2 (by exact mau) (fun k hk => NotOwned.nil)).mono fun e w3 ⟨h2, h3⟩ => ?_) ?_
  · rcases h3 with ⟨h3, _⟩ | ⟨_, ⟨h4, h5⟩ | ⟨x, t, r, h4, h5, h6, h7, h8, h9⟩⟩
    · exact absurd rfl h3
    · exact ⟨(false, 4), h5, .inl ⟨h4, rfl⟩, hw2.ext h2⟩
    · exact ⟨(r, 0), h8, .inr ⟨x, t, h4, h5, h6, h7, rfl, h9⟩, hw2.ext h2⟩
  rintro ⟨rD, eD⟩ hD
  simp only at hD ⊢
  apply omv; rfl; rfl
  apply oex; rfl; rfl; rfl
  apply oex; rfl; rfl; rfl
  apply oas; rfl; rfl
  apply oas; rfl; rfl
  apply OL.nsr
  apply oop; rfl; apply Pev.load_keptA; rfl; exact yes; exact .tail _ (.head _); rfl; intro hcond; assumption; rfl; intro hcond; assumption; intro hcond; exact NotOwned.au
  apply omv; rfl; rfl
  apply omv; rfl; rfl
  refine OL.callE (α := Int × Int) (fun z => .tuple #[.int .i64 z.1, .int .i64 z.2]) (fun z => (inB es.length a b = false ∧ z = (0, 4)) ∨ ∃ x t : Nat, a = (x : Int) ∧ b = (t : Int) ∧ x < es.length ∧ t < es.length ∧ ((¬ (Rc G (-1) x ∧ Rc G (-1) t) ∧ z = (0, 12)) ∨ (Rc G (-1) x ∧ Rc G (-1) t ∧ ∃ c : Nat, z = ((c : Int), 0) ∧ Rc G (-1) c ∧ ∀ d, Dm G d c ↔ Dm G d x ∧ Dm G d t))) (fun z => Cls [] [wT, w0, w]) rfl rfl (by exact Args.au) (fun w2 hw2 => (hCl w2 _ _ hw2 (by exact mau) (fun k hk => NotOwned.nil)).mono fun e w3 ⟨h2, h3⟩ => ?_) ?_
  · rcases h3 with ⟨h3, _⟩ | ⟨_, ⟨h4, h5⟩ | ⟨x, t, h4, h5, h6, h7, ⟨h8, h9⟩ | ⟨h8, h9, c, h10, h11⟩⟩⟩
    · exact absurd rfl h3
    · exact ⟨(0, 4), h5, .inl ⟨h4, rfl⟩, hw2.ext h2⟩
    · exact ⟨(0, 12), h9, .inr ⟨x, t, h4, h5, h6, h7, .inl ⟨h8, rfl⟩⟩, hw2.ext h2⟩
    · exact ⟨((c : Int), 0), h10, .inr ⟨x, t, h4, h5, h6, h7, .inr ⟨h8, h9, c, rfl, h11⟩⟩, hw2.ext h2⟩
  rintro ⟨cC, eC⟩ hC
  simp only at hC ⊢
  apply omv; rfl; rfl
  apply oex; rfl; rfl; rfl
  apply oex; rfl; rfl; rfl
  apply oas; rfl; rfl
  apply oas; rfl; rfl
  apply OL.nx
  apply W.seq
  apply W.sr
  apply oop; rfl; apply Pev.load_keptA; rfl; exact yes; exact .tail _ (.head _); rfl; intro hcond; assumption; rfl; intro hcond; assumption; intro hcond; exact NotOwned.au
  (((first | (with_reducible apply OL.op) | (with_reducible apply QL.op)); (exact Guard.au); rfl; rfl); (exact Pev.call (v := .int .i64 0) rfl (by exact Args.au) (fun _ w2 hw2 => (hFe w2 _ _ hw2 (by exact mau) (fun k hk => NotOwned.nil)).mono (fun e w3 h => ⟨h.1, hw2.ext h.2⟩))))
  apply oas; rfl; rfl
  apply OL.nsr
  apply omv; rfl; rfl
  apply obn; rfl; rfl; rfl; apply Bin.neq
  apply OL.nx
  refine W.cond rfl (fun h => by simp at h) (fun _ => ?_)
  apply W.sk
  apply W.seq
  apply W.sr
  apply omv; rfl; rfl
  apply obn; rfl; rfl; rfl; apply Bin.neq
  apply omv; rfl; rfl
  apply ono; rfl; rfl; rfl; apply Pev.move; rfl; exact yes
  apply ono; rfl; rfl; rfl; apply Pev.len_slice; rfl; exact yes; rfl
  apply ono; rfl; rfl; rfl; apply Pev.fld; rfl; exact yes; rfl
  apply ono; rfl; rfl; rfl; apply Pev.load_kept; rfl; exact yes; exact .tail _ (.head _); rfl; intro hcond; assumption; intro hcond; assumption; intro hcond; exact NotOwned.au
  apply ono; rfl; rfl; rfl; apply Pev.len_slice; rfl; exact yes; rfl
  apply ono; rfl; rfl; rfl; apply Pev.bin; rfl; exact yes; rfl; exact yes; intro hcond; apply Bin.neq
  apply oop; rfl; apply Pev.pick_or; rfl; exact yes; rfl; exact yes
  apply OL.nx
  refine W.cond rfl (fun h => by simp at h) (fun _ => ?_)
  apply W.sk
  apply W.seq
  apply W.sr
  apply omv; rfl; rfl
  apply oop; rfl; apply Pev.len_slice; rfl; exact yes; rfl
  apply omv; rfl; rfl
  apply OL.nx
  apply W.block
  refine W.loop (G := Nat) (fun i => i ≤ es.length) (fun i => es.length - i)
    (fun i => [(1, true, .int .i64 a), (2, true, .int .i64 b), (3, true, .pointer (some ⟨bF, 0, none⟩)), (9, true, .bool rD), (10, true, .int .i64 eD), (11, true, .int .i64 cC), (12, true, .int .i64 eC), (82, true, .slice (some ⟨bI, 0, none⟩) es.length es.length), (83, true, .int .i64 (es.length : Int)), (84, true, .int .i64 (i : Int))])
    (fun i => Cls [] [wT, w0, w]) 0 (by omega) (by exact Sub.au) (fun w' hw' => hw') ?_
  intro i hi
  apply W.sr
  apply obn; rfl; rfl; rfl; apply Bin.lss
  apply OL.nx
  apply W.seq
  (refine W.cnd (fun hlt => ?_) (fun hlt => ?_)) <;> (try (exfalso; first | omega | exact hlt trivial | contradiction))
  · have hil : i < es.length := by omega
    obtain ⟨a5, v1, hq1, hab1, hv1, hc1⟩ := hII.get (show i < (tabI es.length fun k => ovI (o k)).length by rw [tabI_length]; exact hil)
    rw [tabI_get hil] at hv1
    obtain rfl := Option.some.inj hv1
    obtain rfl := Option.some.inj hq1
    rw [add_mid] at hc1
    have hab1 : bI < wT.heap.size := hab1
    apply W.sk
    apply W.sb
    apply W.sr
    apply omv; rfl; rfl
    apply oop; rfl; apply Pev.idxB; rfl; exact yes; rfl; exact yes; rfl; intro hcond; omega; rfl
    apply oop; rfl; apply Pev.load_kept; rfl; exact yes; exact .head _; rfl; intro hcond; assumption; intro hcond; assumption; intro hcond; exact NotOwned.au
    apply oas; rfl; rfl
    apply oas; rfl; rfl
    apply OL.nsr
    apply omv; rfl; rfl
    apply oop; rfl; apply Pev.load_keptA; rfl; exact yes; exact .tail _ (.head _); rfl; intro hcond; assumption; rfl; intro hcond; assumption; intro hcond; exact NotOwned.au
    apply omv; rfl; rfl
    (((first | (with_reducible apply OL.op) | (with_reducible apply QL.op)); (exact Guard.au); rfl; rfl); (exact Pev.call (v := .int .i64 (ovI (o i))) rfl (by exact Args.au) (fun _ w2 hw2 => (RTree_calls es q cap nm i o w2 (he.at hw2 (by exact mau) (fun k hk => NotOwned.nil)) (by omega) hil (by rw [hes, hG]; exact hend) (by rw [hes, hG]; exact hdm) (by rw [hes, hG]; exact hord.zero)).mono (fun e w3 h => ⟨h.1, hw2.ext h.2⟩))))
    apply obn; rfl; rfl; rfl; apply Bin.neq
    apply OL.nx
    refine W.cond rfl (fun h => by simp at h) (fun _ => ?_)
    apply W.skip
    with_reducible apply At.in_normal
    with_reducible apply At.next
    apply W.reg
    apply obn; rfl; rfl; rfl; apply Bin.add_in; omega
    apply omv; rfl; rfl
    apply OL.nil
    exact At.again (i + 1) (by omega) (by omega) (by exact Sub.au) (fun w' hw' => hw')
  obtain rfl : i = es.length := by omega
  refine W.xt ?_
  with_reducible apply At.next
  apply W.seq
  apply W.sr
  apply omv; rfl; rfl
  apply obn; rfl; rfl; rfl; apply Bin.lss
  apply omv; rfl; rfl
  apply ono; rfl; rfl; rfl; apply Pev.move; rfl; exact yes
  apply ono; rfl; rfl; rfl; apply Pev.bin; rfl; exact fun h => h; rfl; exact yes; intro hcond; apply Bin.lss
  apply oop; rfl; apply Pev.pick_or; rfl; exact yes; rfl; exact fun h => h
  apply omv; rfl; rfl
  apply ono; rfl; rfl; rfl; apply Pev.move; rfl; exact yes
  apply ono; rfl; rfl; rfl; apply Pev.fld; rfl; exact yes; rfl
  apply ono; rfl; rfl; rfl; apply Pev.load_kept; rfl; exact fun h => h; exact .tail _ (.head _); rfl; intro hcond; assumption; intro hcond; assumption; intro hcond; exact NotOwned.au
  apply ono; rfl; rfl; rfl; apply Pev.len_slice; rfl; exact fun h => h; rfl
  apply ono; rfl; rfl; rfl; apply Pev.bin; rfl; exact fun h => h; rfl; exact fun h => h; intro hcond; apply Bin.geq
  apply oop; rfl; apply Pev.pick_or; rfl; exact yes; rfl; exact fun h => h
  apply omv; rfl; rfl
  apply ono; rfl; rfl; rfl; apply Pev.move; rfl; exact yes
  apply ono; rfl; rfl; rfl; apply Pev.fld; rfl; exact yes; rfl
  apply ono; rfl; rfl; rfl; apply Pev.load_kept; rfl; exact fun h => h; exact .tail _ (.head _); rfl; intro hcond; assumption; intro hcond; assumption; intro hcond; exact NotOwned.au
  apply ono; rfl; rfl; rfl; apply Pev.len_slice; rfl; exact fun h => h; rfl
  apply ono; rfl; rfl; rfl; apply Pev.bin; rfl; exact fun h => h; rfl; exact fun h => h; intro hcond; apply Bin.geq
  apply oop; rfl; apply Pev.pick_or; rfl; exact yes; rfl; exact fun h => h
  apply OL.nx
  rcases hD with ⟨hin, hD⟩ | ⟨x, t, rfl, rfl, hx, ht, rfl, hrD⟩
  · rcases hC with ⟨_, hC⟩ | ⟨x, t, rfl, rfl, hx, ht, _⟩
    · simp only [Prod.mk.injEq] at hD hC
      obtain ⟨rfl, rfl⟩ := hD
      obtain ⟨rfl, rfl⟩ := hC
      have hno := inB_no hin
      refine W.cond rfl (fun _ => ?_) (fun h => ?_)
      · apply W.sr
        apply omv; rfl; rfl
        apply obn; rfl; rfl; rfl; apply Bin.eql
        apply omv; rfl; rfl
        apply oy; rfl; rfl; rfl; apply Pev.move; rfl; exact yes
        apply oy; rfl; rfl; rfl; apply Pev.bin; rfl; exact yes; rfl; exact yes; intro hcond; apply Bin.eql
        apply oop; rfl; apply Pev.pick_and; rfl; exact yes; rfl; exact yes
        apply omv; rfl; rfl
        apply oy; rfl; rfl; rfl; apply Pev.move; rfl; exact yes
        apply oy; rfl; rfl; rfl; apply Pev.not; rfl; exact yes
        apply oop; rfl; apply Pev.pick_and; rfl; exact yes; rfl; exact yes
        apply omv; rfl; rfl
        apply oy; rfl; rfl; rfl; apply Pev.move; rfl; exact yes
        apply oy; rfl; rfl; rfl; apply Pev.bin; rfl; exact yes; rfl; exact yes; intro hcond; apply Bin.eql
        apply oop; rfl; apply Pev.pick_and; rfl; exact yes; rfl; exact yes
        apply oas; rfl; rfl
        apply OL.nx
        refine W.rt ?_
        ((with_reducible apply At.fin1); rfl; rfl; intro w' hw')
        exact ⟨rfl, by (exact hw'.fr)⟩
      · exfalso
        simp at h
        omega
    · rw [inB_nat hx ht] at hin; cases hin
  rcases hC with ⟨hin, _⟩ | ⟨x2, t2, hx2, ht2, _, _, hC⟩
  · rw [inB_nat hx ht] at hin; cases hin
  obtain rfl : x = x2 := by omega
  obtain rfl : t = t2 := by omega
  refine W.cond rfl (fun h => ?_) (fun _ => ?_)
  · exfalso
    simp at h
    omega
  apply W.sk
  apply W.sr
  apply oop; rfl; apply Pev.load_keptA; rfl; exact yes; exact .tail _ (.head _); rfl; intro hcond; assumption; rfl; intro hcond; assumption; intro hcond; exact NotOwned.au
  refine OL.callE (α := Nat × World) (fun z => .slice (some ⟨z.1, 0, none⟩) es.length es.length) (fun z => z.1 < z.2.heap.size ∧ ∀ j : Nat, j < es.length → z.2.cell? ⟨z.1, 0 + (j : Int).toNat * 1, none⟩ = some (.bool (rcB G (-1) j))) (fun z => Cls [] [z.2, wT, w0, w]) rfl rfl (by exact Args.au) (fun w2 hw2 => (hRe (-1) w2 _ _ hw2 (by exact mau) (fun k hk => NotOwned.nil)).mono fun e w3 ⟨bR, h1, h2, h3, h4⟩ => ⟨(bR, w3), h1, ⟨h3, h4⟩, (hw2.ext h2).note⟩) ?_
  rintro ⟨bR, wR⟩ ⟨hbR, hcR⟩
  simp only at hbR hcR ⊢
  have hcRx := hcR x hx
  have hcRt := hcR t ht
  have hprx : ∀ k, An o x k → Rc G (-1) k → Rc G (-1) x := fun k h hk => (h.pr hend.w ⟨hk, by
    by_cases e : k = 0
    · exact .inl e
    · exact .inr (hend.all k hk e)⟩).1
  have hD2 : rD = (!rcB G (-1) t || rcB G (-1) x && ovB G x t) := by
    rw [Bool.eq_iff_iff, hrD, Bool.or_eq_true, Bool.and_eq_true, Bool.not_eq_true', rcB_not, rcB_iff, ovB_iff]
    by_cases hrt : Rc G (-1) t
    · simp only [hrt, not_true, false_or]
      exact ⟨fun h => ⟨hprx t ((hdm x t hrt).2 h) hrt, h⟩, fun h => h.2⟩
    · simp [hrt]
  clear hrD
  subst hD2
  apply oas; rfl; rfl
  apply OL.nx
  apply W.seq
  apply W.sr
  apply omv; rfl; rfl
  apply obn; rfl; rfl; rfl; apply Bin.neq
  apply omv; rfl; rfl
  apply ono; rfl; rfl; rfl; apply Pev.move; rfl; exact yes
  apply ono; rfl; rfl; rfl; apply Pev.move; rfl; exact yes
  apply ono; rfl; rfl; rfl; apply Pev.move; rfl; exact yes
  apply ono; rfl; rfl; rfl; apply Pev.idxB; rfl; exact yes; rfl; exact yes; rfl; intro hcond; omega; rfl
  apply ono; rfl; rfl; rfl; apply Pev.load_kept; rfl; exact yes; exact .head _; rfl; intro hcond; assumption; intro hcond; assumption; intro hcond; exact NotOwned.au
  apply ono; rfl; rfl; rfl; apply Pev.not; rfl; exact yes
  apply ono; rfl; rfl; rfl; apply Pev.move; rfl; exact yes
  apply ono; rfl; rfl; rfl; apply Pev.move; rfl; exact yes
  apply ono; rfl; rfl; rfl; apply Pev.move; rfl; exact yes
  apply ono; rfl; rfl; rfl; apply Pev.idxB; rfl; exact fun h => h; rfl; exact fun h => h; rfl; intro hcond; omega; rfl
  apply ono; rfl; rfl; rfl; apply Pev.load_kept; rfl; exact fun h => h; exact .head _; rfl; intro hcond; assumption; intro hcond; assumption; intro hcond; exact NotOwned.au
  apply ono; rfl; rfl; rfl; apply Pev.move; rfl; exact fun h => h
  apply OL.op; exact Guard.cyes rfl rfl; rfl; rfl; apply Pev.load_keptA; rfl; exact yes; exact .tail _ (.tail _ (.head _)); rfl; intro hcond; assumption; rfl; intro hcond; assumption; intro hcond; exact NotOwned.au
  apply OL.op; exact Guard.cyes rfl rfl; rfl; rfl; apply Pev.move; rfl; exact yes
  apply OL.op; exact Guard.cyes rfl rfl; rfl; rfl; apply Pev.move; rfl; exact yes
  (((first | (with_reducible apply OL.op) | (with_reducible apply QL.op)); (exact Guard.au); rfl; rfl); (refine Pev.call (v := .bool (ovB G x t)) rfl (by exact Args.au) (fun _ w2 hw2 => (hOv x t w2 _ _ hw2 (by exact mau) (fun k hk => NotOwned.nil) ht).mono fun e w3 h => ⟨h.1, hw2.ext h.2⟩)))
  apply ono; rfl; rfl; rfl; apply Pev.pick_and; rfl; exact fun h => h; rfl; exact fun h => h
  apply ono; rfl; rfl; rfl; apply Pev.pick_or; rfl; exact yes; rfl; exact fun h => h
  apply ono; rfl; rfl; rfl; apply Pev.bin; rfl; exact yes; rfl; exact yes; intro hcond; apply Bin.bool_neq; rfl
  apply oop; rfl; apply Pev.pick_or; rfl; exact yes; rfl; exact yes
  apply OL.nx
  refine W.cond rfl (fun h => by simp at h) (fun _ => ?_)
  apply W.sk
  apply W.seq
  apply W.sr
  apply omv; rfl; rfl
  apply omv; rfl; rfl
  apply oop; rfl; apply Pev.idxB; rfl; exact yes; rfl; exact yes; rfl; intro hcond; omega; rfl
  apply oop; rfl; apply Pev.load_kept; rfl; exact yes; exact .head _; rfl; intro hcond; assumption; intro hcond; assumption; intro hcond; exact NotOwned.au
  apply oop; rfl; apply Pev.not; rfl; exact yes
  apply omv; rfl; rfl
  apply ono; rfl; rfl; rfl; apply Pev.move; rfl; exact yes
  apply ono; rfl; rfl; rfl; apply Pev.move; rfl; exact yes
  apply ono; rfl; rfl; rfl; apply Pev.idxB; rfl; exact fun h => h; rfl; exact fun h => h; rfl; intro hcond; omega; rfl
  apply ono; rfl; rfl; rfl; apply Pev.load_kept; rfl; exact fun h => h; exact .head _; rfl; intro hcond; assumption; intro hcond; assumption; intro hcond; exact NotOwned.au
  apply ono; rfl; rfl; rfl; apply Pev.not; rfl; exact fun h => h
  apply oop; rfl; apply Pev.pick_or; rfl; exact yes; rfl; exact fun h => h
  apply OL.nx
  refine W.cond rfl (fun h => ?_) (fun h => ?_)
  · rcases hC with ⟨_, hC⟩ | ⟨h3, h4, _⟩
    · simp only [Prod.mk.injEq] at hC
      obtain ⟨rfl, rfl⟩ := hC
      apply W.sr
      apply omv; rfl; rfl
      apply obn; rfl; rfl; rfl; apply Bin.eql
      apply omv; rfl; rfl
      apply oy; rfl; rfl; rfl; apply Pev.move; rfl; exact yes
      apply oy; rfl; rfl; rfl; apply Pev.bin; rfl; exact yes; rfl; exact yes; intro hcond; apply Bin.eql
      apply oop; rfl; apply Pev.pick_and; rfl; exact yes; rfl; exact yes
      apply oas; rfl; rfl
      apply OL.nx
      refine W.rt ?_
      ((with_reducible apply At.fin1); rfl; rfl; intro w' hw')
      exact ⟨rfl, by (exact hw'.fr)⟩
    · exfalso
      rw [rcB_iff.2 h3, rcB_iff.2 h4] at h
      simp at h
  rcases hC with ⟨h3, _⟩ | ⟨hrx, hrt, c, hC, hrc, hcd⟩
  · exfalso
    apply h3
    constructor
    · apply Classical.byContradiction
      intro h4
      rw [rcB_not.2 h4] at h
      simp at h
    · apply Classical.byContradiction
      intro h4
      rw [rcB_not.2 h4] at h
      simp at h
  simp only [Prod.mk.injEq] at hC
  obtain ⟨rfl, rfl⟩ := hC
  have hcl : c < es.length := by rw [← hGl]; exact hrc.lt
  have hcRc := hcR c hcl
  apply W.sk
  apply W.seq
  apply W.sr
  apply ofa; rfl; rfl; rfl
  apply oop; rfl; apply Pev.load_kept; rfl; exact yes; exact .tail _ (.tail _ (.head _)); rfl; intro hcond; assumption; intro hcond; assumption; intro hcond; exact NotOwned.au
  apply oop; rfl; apply Pev.len_slice; rfl; exact yes; rfl
  apply omv; rfl; rfl
  apply OL.nx
  apply W.block
  refine W.loop (G := Nat) (fun i => i ≤ es.length) (fun i => es.length - i)
    (fun i => [(1, true, .int .i64 (x : Int)), (2, true, .int .i64 (t : Int)), (3, true, .pointer (some ⟨bF, 0, none⟩)), (11, true, .int .i64 (c : Int)), (12, true, .int .i64 0), (16, true, .slice (some ⟨bR, 0, none⟩) es.length es.length), (174, true, .int .i64 (es.length : Int)), (175, true, .int .i64 (i : Int))])
    (fun i => Cls [] [wR, wT, w0, w]) 0 (by omega) (by exact Sub.au) (fun w' hw' => hw') ?_
  intro i hi
  apply W.sr
  apply obn; rfl; rfl; rfl; apply Bin.lss
  apply OL.nx
  apply W.seq
  (refine W.cnd (fun hlt => ?_) (fun hlt => ?_)) <;> (try (exfalso; first | omega | exact hlt trivial | contradiction))
  · have hil : i < es.length := by omega
    have hcRi := hcR i hil
    apply W.sk
    apply W.sb
    apply W.sr
    apply omv; rfl; rfl
    apply oas; rfl; rfl
    apply OL.nsr
    apply omv; rfl; rfl
    apply omv; rfl; rfl
    apply oop; rfl; apply Pev.idxB; rfl; exact yes; rfl; exact yes; rfl; intro hcond; omega; rfl
    apply oop; rfl; apply Pev.load_kept; rfl; exact yes; exact .head _; rfl; intro hcond; assumption; intro hcond; assumption; intro hcond; exact NotOwned.au
    apply omv; rfl; rfl
    apply oy; rfl; rfl; rfl; apply Pev.load_keptA; rfl; exact yes; exact .tail _ (.tail _ (.head _)); rfl; intro hcond; assumption; rfl; intro hcond; assumption; intro hcond; exact NotOwned.au
    apply oy; rfl; rfl; rfl; apply Pev.move; rfl; exact yes
    apply oy; rfl; rfl; rfl; apply Pev.move; rfl; exact yes
    (((first | (with_reducible apply OL.op) | (with_reducible apply QL.op)); (exact Guard.au); rfl; rfl); (refine Pev.call (v := .bool (ovB G i x)) rfl (by exact Args.au) (fun _ w2 hw2 => (hOv i x w2 _ _ hw2 (by exact mau) (fun k hk => NotOwned.nil) hx).mono fun e w3 h => ⟨h.1, hw2.ext h.2⟩)))
    apply oop; rfl; apply Pev.pick_and; rfl; exact yes; rfl; exact fun h => h
    apply omv; rfl; rfl
    apply oy; rfl; rfl; rfl; apply Pev.load_keptA; rfl; exact yes; exact .tail _ (.tail _ (.head _)); rfl; intro hcond; assumption; rfl; intro hcond; assumption; intro hcond; exact NotOwned.au
    apply oy; rfl; rfl; rfl; apply Pev.move; rfl; exact yes
    apply oy; rfl; rfl; rfl; apply Pev.move; rfl; exact yes
    (((first | (with_reducible apply OL.op) | (with_reducible apply QL.op)); (exact Guard.au); rfl; rfl); (refine Pev.call (v := .bool (ovB G i t)) rfl (by exact Args.au) (fun _ w2 hw2 => (hOv i t w2 _ _ hw2 (by exact mau) (fun k hk => NotOwned.nil) ht).mono fun e w3 h => ⟨h.1, hw2.ext h.2⟩)))
    apply oop; rfl; apply Pev.pick_and; rfl; exact yes; rfl; exact fun h => h
    apply omv; rfl; rfl
    apply oy; rfl; rfl; rfl; apply Pev.move; rfl; exact yes
    apply oy; rfl; rfl; rfl; apply Pev.bin; rfl; exact fun h => h; rfl; exact yes; intro hcond; apply Bin.lss
    apply oy; rfl; rfl; rfl; apply Pev.move; rfl; exact fun h => h
    apply OL.op; exact Guard.cno rfl rfl; rfl; rfl; apply Pev.move; rfl; exact yes
    apply OL.op; exact Guard.cno rfl rfl; rfl; rfl; apply Pev.fld; rfl; exact yes; rfl
    apply OL.op; exact Guard.cno rfl rfl; rfl; rfl; apply Pev.load_kept; rfl; exact fun h => h; exact .tail _ (.tail _ (.head _)); rfl; intro hcond; assumption; intro hcond; assumption; intro hcond; exact NotOwned.au
    apply OL.op; exact Guard.cno rfl rfl; rfl; rfl; apply Pev.len_slice; rfl; exact fun h => h; rfl
    apply OL.op; exact Guard.cno rfl rfl; rfl; rfl; apply Pev.bin; rfl; exact fun h => h; rfl; exact fun h => h; intro hcond; apply Bin.geq
    apply oy; rfl; rfl; rfl; apply Pev.pick_or; rfl; exact fun h => h; rfl; exact fun h => h
    apply oy; rfl; rfl; rfl; apply Pev.move; rfl; exact fun h => h
    apply OL.op; exact Guard.cno rfl rfl; rfl; rfl; apply Pev.move; rfl; exact yes
    apply OL.op; exact Guard.cno rfl rfl; rfl; rfl; apply Pev.move; rfl; exact yes
    apply OL.op; exact Guard.cno rfl rfl; rfl; rfl; apply Pev.idxB; rfl; exact fun h => h; rfl; exact fun h => h; rfl; intro hcond; omega; rfl
    apply OL.op; exact Guard.cno rfl rfl; rfl; rfl; apply Pev.load_kept; rfl; exact fun h => h; exact .head _; rfl; intro hcond; assumption; intro hcond; assumption; intro hcond; exact NotOwned.au
    apply OL.op; exact Guard.cno rfl rfl; rfl; rfl; apply Pev.not; rfl; exact fun h => h
    apply oy; rfl; rfl; rfl; apply Pev.pick_or; rfl; exact fun h => h; rfl; exact fun h => h
    apply oy; rfl; rfl; rfl; apply Pev.move; rfl; exact fun h => h
    apply OL.op; exact Guard.cno rfl rfl; rfl; rfl; apply Pev.load_keptA; rfl; exact yes; exact .tail _ (.tail _ (.head _)); rfl; intro hcond; assumption; rfl; intro hcond; assumption; intro hcond; exact NotOwned.au
    apply OL.op; exact Guard.cno rfl rfl; rfl; rfl; apply Pev.move; rfl; exact yes
    apply OL.op; exact Guard.cno rfl rfl; rfl; rfl; apply Pev.move; rfl; exact yes
    (((first | (with_reducible apply OL.op) | (with_reducible apply QL.op)); (exact Guard.au); rfl; rfl); (refine Pev.call (v := .bool (ovB G i c)) rfl (by exact Args.au) (fun _ w2 hw2 => (hOv i c w2 _ _ hw2 (by exact mau) (fun k hk => NotOwned.nil) hcl).mono fun e w3 h => ⟨h.1, hw2.ext h.2⟩)))
    apply OL.op; exact Guard.cno rfl rfl; rfl; rfl; apply Pev.not; rfl; exact fun h => h
    apply oy; rfl; rfl; rfl; apply Pev.pick_or; rfl; exact fun h => h; rfl; exact fun h => h
    apply oop; rfl; apply Pev.pick_and; rfl; exact yes; rfl; exact fun h => h
    apply OL.nx
    refine W.cond rfl (fun h => ?_) (fun _ => ?_)
    · exfalso
      rw [Bool.and_eq_true, Bool.and_eq_true, Bool.and_eq_true, Bool.or_eq_true, Bool.or_eq_true, Bool.or_eq_true, Bool.not_eq_true', Bool.not_eq_true'] at h
      obtain ⟨⟨⟨_, h5⟩, h6⟩, h7⟩ := h
      have h8 := (hcd i).2 ⟨ovB_iff.1 h5, ovB_iff.1 h6⟩
      rw [ovB_iff.2 h8, rcB_iff.2 hrc] at h7
      rcases h7 with ((h7 | h7) | h7) | h7
      · have := of_decide_eq_true h7; omega
      · have := of_decide_eq_true h7; omega
      · cases h7
      · cases h7
    apply W.skip
    with_reducible apply At.in_normal
    with_reducible apply At.next
    apply W.reg
    apply obn; rfl; rfl; rfl; apply Bin.add_in; omega
    apply omv; rfl; rfl
    apply OL.nil
    exact At.again (i + 1) (by omega) (by omega) (by exact Sub.au) (fun w' hw' => hw')
  · obtain rfl : i = es.length := by omega
    refine W.xt ?_
    with_reducible apply At.next
    apply W.sr
    apply omv; rfl; rfl
    apply obn; rfl; rfl; rfl; apply Bin.eql
    apply omv; rfl; rfl
    apply oy; rfl; rfl; rfl; apply Pev.load_keptA; rfl; exact yes; exact .tail _ (.tail _ (.head _)); rfl; intro hcond; assumption; rfl; intro hcond; assumption; intro hcond; exact NotOwned.au
    apply oy; rfl; rfl; rfl; apply Pev.move; rfl; exact yes
    apply oy; rfl; rfl; rfl; apply Pev.move; rfl; exact yes
    (((first | (with_reducible apply OL.op) | (with_reducible apply QL.op)); (exact Guard.au); rfl; rfl); (refine Pev.call (v := .bool (ovB G c x)) rfl (by exact Args.au) (fun _ w2 hw2 => (hOv c x w2 _ _ hw2 (by exact mau) (fun k hk => NotOwned.nil) hx).mono fun e w3 h => ⟨h.1, hw2.ext h.2⟩)))
    apply oop; rfl; apply Pev.pick_and; rfl; exact yes; rfl; exact yes
    apply omv; rfl; rfl
    apply oy; rfl; rfl; rfl; apply Pev.load_keptA; rfl; exact yes; exact .tail _ (.tail _ (.head _)); rfl; intro hcond; assumption; rfl; intro hcond; assumption; intro hcond; exact NotOwned.au
    apply oy; rfl; rfl; rfl; apply Pev.move; rfl; exact yes
    apply oy; rfl; rfl; rfl; apply Pev.move; rfl; exact yes
    (((first | (with_reducible apply OL.op) | (with_reducible apply QL.op)); (exact Guard.au); rfl; rfl); (refine Pev.call (v := .bool (ovB G c t)) rfl (by exact Args.au) (fun _ w2 hw2 => (hOv c t w2 _ _ hw2 (by exact mau) (fun k hk => NotOwned.nil) ht).mono fun e w3 h => ⟨h.1, hw2.ext h.2⟩)))
    apply oop; rfl; apply Pev.pick_and; rfl; exact yes; rfl; exact fun h => h
    apply oas; rfl; rfl
    apply OL.nx
    apply W.ret
    ((with_reducible apply At.fin1); rfl; rfl; intro w' hw')
    have h5 := (hcd c).1 (.inl rfl)
    exact ⟨by rw [ovB_iff.2 h5.1, ovB_iff.2 h5.2]; rfl, by (exact hw'.fr)⟩
end Go.Proofs.Ytehelljmaiophaa.ss

/- Readings with the reach: what a slice's and a struct's parts are, and how much they weigh at most. General. No condition. -/
namespace Go.Eng
set_option linter.unusedVariables false
set_option linter.unusedSimpArgs false
open Go.RowKit Go.ChangeShapes Go.WideShapes Go.ChangeAt
set_option linter.unusedVariables false
set_option linter.unusedSimpArgs false
section
variable {H : Type} {enc : TypeId × Value → H} {P : Program} {w : World} {spare : Nat → Bool} {held : Bool}

/-- a datum within reach -/
def Lt (P : Program) (t : TypeId) (d : DataW H) : Prop := ∀ n ∈ d.weights P t, n ≤ reachBytes
theorem weightsAll_mem {e : TypeId} : ∀ {ds : List (DataW H)} {d : DataW H}, d ∈ ds → ∀ n ∈ d.weights P e, n ∈ DataW.weightsAll P e ds
  | x :: ds, d, hd, n, hn => by
    simp only [DataW.weightsAll, List.mem_append]
    rcases List.mem_cons.1 hd with rfl | hd
    · exact .inl hn
    · exact .inr (weightsAll_mem hd n hn)
theorem Lt.arg {ts : List TypeId} {ds : List (DataW H)} (h : (DataW.weightsEach P ts ds).all (· ≤ reachBytes) = true) {j : Nat} {t : TypeId} {d : DataW H} (ht : ts[j]? = some t) (hd : ds[j]? = some d) : Lt P t d := fun n hn => by
  have := List.all_eq_true.1 h _ (DataW.weights_mem_each ht hd n hn)
  simpa using this
theorem Lt.str {t : TypeId} {b : List UInt8} (h : Lt (H := H) P t (.lit (.string b))) : b.length ≤ reachBytes := h b.length (by simp [DataW.weights])

/-- a struct that reads -/
theorem rd_struct {t : TypeId} {fs : Array Field} {fuel : Nat} {cs : List Value} {x : DataW H × List MemPlace} (ht : P.underlying t = some (.struct fs)) (h : DataW.trod enc P w 0 spare held fuel t cs = some x) (hw : Lt P t x.1) :
    cs.length = P.cellsOf t ∧ ∃ n, n < fuel ∧ ∀ (i : Nat) (f : Field), fs[i]? = some f → ∃ y, DataW.trod enc P w 0 spare held n f.type ((cs.drop f.offset).take (P.cellsOf f.type)) = some y ∧ Lt P f.type y.1 := by
  obtain ⟨xs, n, hfu, rfl, hlen, hxl, hf⟩ := DataW.trod_struct ht h
  refine ⟨hlen, n, by omega, fun i f hi => ?_⟩
  have hlt : i < xs.length := by rw [hxl]; exact (Array.getElem?_eq_some_iff.1 hi).1
  refine ⟨xs[i], by rw [hf i f hi, List.getElem?_eq_getElem hlt], fun k hk => hw k ?_⟩
  simp only [DataW.weights, ht]
  exact DataW.weights_mem_each (j := i) (t := f.type) (d := xs[i].1) (by simpa using ⟨f, by simpa using hi, rfl⟩) (by simp [hlt]) k hk
/-- a slice that reads -/
theorem rd_slice0 {t e : TypeId} {sz fuel : Nat} {cs : List Value} {x : DataW H × List MemPlace} (ht : P.underlying t = some (.slice e)) (hs : P.cellsOf e = sz) (h : DataW.trod enc P w 0 spare held fuel t cs = some x) (hw : Lt P t x.1) :
    ∃ (q : Option Addr) (len cap : Nat), cs = [.slice q len cap] ∧ len ≤ cap ∧ cap ≤ maxLen ∧ len * P.bytesOf e ≤ reachBytes ∧ (q = none → len = 0) ∧
      ∃ n, n < fuel ∧ ∀ a, q = some a → ∀ i, i < len → ∃ cs' y, CellsAt w (a.add (i * sz)) cs' ∧ cs'.length = sz ∧ DataW.trod enc P w 0 spare held n e cs' = some y ∧ Lt P e y.1 := by
  rcases DataW.trod_slice ht h with ⟨rfl, _⟩ | ⟨a, len, cap, elems, rest, n, hf, rfl, rfl, _, hl, hm, hlen, hel, _, _⟩
  · refine ⟨none, 0, 0, rfl, Nat.le_refl _, by simp [maxLen], by simp, fun _ => rfl, 0, ?_, fun a ha => by cases ha⟩
    cases fuel with
    | zero => simp [DataW.trod] at h
    | succ n => omega
  · have hwt : len * P.bytesOf e ≤ reachBytes := by
      have h1 := hw ((elems.map (·.1)).length * P.bytesOf e + (rest.map (·.1)).length * P.bytesOf e) (by simp [DataW.weights, ht, Nat.add_mul])
      rw [List.length_map, hlen] at h1
      omega
    refine ⟨some a, len, cap, rfl, hl, hm, hwt, (fun hn => by cases hn), n, by omega, fun a' ha i hi => ?_⟩
    obtain rfl := Option.some.inj ha
    have h1 := hel i hi
    rw [List.getElem?_eq_getElem (by omega)] at h1
    rw [hs] at h1
    obtain ⟨cs', hc, ht'⟩ := Option.bind_eq_some_iff.1 h1
    obtain ⟨h2, h3⟩ := cellsAt_of hc
    refine ⟨cs', _, h2, h3, ht', fun k hk => hw k ?_⟩
    simp only [DataW.weights, ht]
    exact List.mem_cons_of_mem _ (List.mem_append_left _ (weightsAll_mem (d := elems[i].1) (List.mem_map.2 ⟨_, List.getElem_mem (by omega), rfl⟩) k hk))
variable {α : Type} {f : α → List Value} {sz : Nat} {R : α → Prop}
/-- a slice whose elements read, as a list -/
theorem rd_slice {t e : TypeId} {fuel : Nat} {cs : List Value} {x : DataW H × List MemPlace} (ht : P.underlying t = some (.slice e)) (hs : P.cellsOf e = sz) (hsz : 0 < sz) (hf : ∀ x, (f x).length = sz)
    (he : ∀ (n : Nat) (cs' : List Value) (y : DataW H × List MemPlace), n < fuel → DataW.trod enc P w 0 spare held n e cs' = some y → Lt P e y.1 → ∃ u : α, cs' = f u ∧ R u)
    (h : DataW.trod enc P w 0 spare held fuel t cs = some x) (hw : Lt P t x.1) :
    ∃ (q : Option Addr) (l : List α) (cap : Nat), cs = [.slice q l.length cap] ∧ l.length ≤ cap ∧ cap ≤ maxLen ∧ l.length * P.bytesOf e ≤ reachBytes ∧ SlAt w w.heap.size q (cat f l) ∧ ∀ u ∈ l, R u := by
  obtain ⟨q, len, cap, rfl, hle, hcap, hwt, hq0, m, hm, hel⟩ := rd_slice0 ht hs h hw
  cases q with
  | none =>
    obtain rfl := hq0 rfl
    exact ⟨none, [], cap, rfl, hle, hcap, by simp, SlAt.nil, fun u hu => by cases hu⟩
  | some a =>
    obtain ⟨l, hl, hr⟩ := list_of (fun i (u : α) => CellsAt w (a.add (i * sz)) (f u) ∧ R u) len (fun i hi => by
      obtain ⟨cs', y, hc, hl1, ht', hy⟩ := hel a rfl i hi
      obtain ⟨u, rfl, hR⟩ := he m cs' y hm ht' hy
      exact ⟨u, hc, hR⟩)
    subst hl
    refine ⟨some a, l, cap, rfl, hle, hcap, hwt, fun hv => ⟨a, rfl, ?_, fun j v hj => ?_⟩, fun u hu => ?_⟩
    · rw [cat_length hf] at hv
      have hl0 : 0 < l.length := Nat.pos_of_mul_pos_right hv
      have h0 := (hr 0 _ (List.getElem?_eq_getElem hl0)).1
      rw [Nat.zero_mul, add_zero_] at h0
      have hz : 0 < (f l[0]).length := by rw [hf]; exact hsz
      have := h0 0 _ (List.getElem?_eq_getElem hz)
      rw [add_zero_] at this
      exact cell_lt this
    · have hjl := (List.getElem?_eq_some_iff.1 hj).1
      rw [cat_length hf] at hjl
      have hi : j / sz < l.length := Nat.div_lt_of_lt_mul (by rwa [Nat.mul_comm] at hjl)
      have h0 := (hr (j / sz) _ (List.getElem?_eq_getElem hi)).1
      have hm' : j % sz < (f l[j / sz]).length := by rw [hf]; exact Nat.mod_lt _ hsz
      have h1 := cat_get hf (List.getElem?_eq_getElem hi) (j % sz) _ (List.getElem?_eq_getElem hm')
      have ej : j / sz * sz + j % sz = j := by rw [Nat.mul_comm]; exact Nat.div_add_mod j sz
      rw [ej, hj] at h1
      have h2 := h0 (j % sz) _ (List.getElem?_eq_getElem hm')
      rw [add_add, ej] at h2
      rw [h2, h1]
    · obtain ⟨i, hi, rfl⟩ := List.getElem_of_mem hu
      exact (hr i _ (List.getElem?_eq_getElem hi)).2
end
end Go.Eng

/- Readings with the reach, as relations. General. No condition. Readings of functions in single assignment form. No condition. (Printed by ssw.py.) -/
namespace Go.Eng
set_option linter.unusedVariables false
set_option linter.unusedSimpArgs false
open Go.RowKit Go.ChangeShapes Go.WideShapes Go.ChangeAt
set_option linter.unusedVariables false
set_option linter.unusedSimpArgs false
section
variable {H : Type} {enc : TypeId × Value → H} {P : Program} {w : World} {spare : Nat → Bool} {held : Bool} {α μ : Type} {R : Rel α μ}
theorem rd_arrL {t e : TypeId} {fuel : Nat} {cs : List Value} {x : DataW H × List MemPlace} (ht : P.underlying t = some (.slice e)) (hs : P.cellsOf e = R.sz)
    (he : ∀ (n : Nat) (cs' : List Value) (y : DataW H × List MemPlace), n < fuel → DataW.trod enc P w 0 spare held n e cs' = some y → Lt P e y.1 → ∃ u : α × μ, cs' = R.c u ∧ R.ok w (low w) u.1 u.2)
    (h : DataW.trod enc P w 0 spare held fuel t cs = some x) (hw : Lt P t x.1) :
    ∃ (q : Option Addr) (l : List (α × μ)) (cap : Nat), cs = [.slice q l.length cap] ∧ l.length ≤ cap ∧ cap ≤ maxLen ∧ l.length * P.bytesOf e ≤ reachBytes ∧ Arr R w (low w) l q := by
  obtain ⟨q, l, cap, e1, h1, h2, h3, h4, h5⟩ := rd_slice (α := α × μ) (f := R.c) (R := fun u => R.ok w (low w) u.1 u.2) ht hs R.pos R.clen he h hw
  exact ⟨q, l, cap, e1, h1, h2, h3, fun hl => h4 (by rw [cat_length (f := R.c) R.clen]; exact Nat.mul_pos hl R.pos), h5⟩
end
end Go.Eng
namespace Go.Proofs.Ytehelljmaiophaa.ss
set_option linter.unusedVariables false
set_option linter.unusedSimpArgs false
open Go.RowKit Go.Eng Go.Ss Go.ChangeShapes Go.WideShapes Go.ChangeAt
set_option linter.unusedVariables false
set_option linter.unusedSimpArgs false
set_option maxRecDepth 100000
section
variable {H : Type} {enc : TypeId × Value → H} {w : World} {spare : Nat → Bool} {held : Bool}
theorem list2 {α : Type} {l : List α} (h : l.length = 2) : ∃ a0 a1, l = [a0, a1] := by
  match l, h with
  | [a0, a1], _ => exact ⟨a0, a1, rfl⟩
theorem list4 {α : Type} {l : List α} (h : l.length = 4) : ∃ a0 a1 a2 a3, l = [a0, a1, a2, a3] := by
  match l, h with
  | [a0, a1, a2, a3], _ => exact ⟨a0, a1, a2, a3, rfl⟩
theorem list5 {α : Type} {l : List α} (h : l.length = 5) : ∃ a0 a1 a2 a3 a4, l = [a0, a1, a2, a3, a4] := by
  match l, h with
  | [a0, a1, a2, a3, a4], _ => exact ⟨a0, a1, a2, a3, a4, rfl⟩
theorem list7 {α : Type} {l : List α} (h : l.length = 7) : ∃ a0 a1 a2 a3 a4 a5 a6, l = [a0, a1, a2, a3, a4, a5, a6] := by
  match l, h with
  | [a0, a1, a2, a3, a4, a5, a6], _ => exact ⟨a0, a1, a2, a3, a4, a5, a6, rfl⟩
theorem reach47 : reachBytes ≤ 140737488355328 := by decide
theorem cat_ints (l : List Int) : cat (fun x : Int => [Value.int .i64 x]) l = ints l := by
  induction l with
  | nil => rfl
  | cons x r ih =>
    show [Value.int .i64 x] ++ cat (fun x : Int => [Value.int .i64 x]) r = _
    rw [ih]
    rfl
theorem ints_rd {fuel : Nat} {cs : List Value} {x : DataW H × List MemPlace} (h : DataW.trod enc Try.prog w 0 spare held fuel 35 cs = some x) (hw : Lt Try.prog 35 x.1) :
    ∃ (q : Option Addr) (l : List Int) (cap : Nat), cs = [.slice q l.length cap] ∧ l.length ≤ cap ∧ l.length ≤ 140737488355328 ∧ IntsO w (low w) l q ∧ ∀ n ∈ l, I64 n := by
  obtain ⟨q, l, cap, e1, h1, h2, h3, h4, h5⟩ := rd_slice (α := Int) (f := fun x => [Value.int .i64 x]) (R := fun n => I64 n) Try.underlying35 (by kernel_rfl) (by decide) (fun _ => rfl) (fun n cs' y _ hy _ => by
    obtain ⟨k, e1, hk⟩ := DataW.trod_int Try.underlying3 hy
    exact ⟨k, e1, wf_i64 hk.2⟩) h hw
  rw [cat_ints] at h4
  have hb : Try.prog.bytesOf 3 = 8 := by kernel_rfl
  rw [hb] at h3
  have := reach47
  exact ⟨q, l, cap, e1, h1, by omega, fun hl => h4 (by rw [ints_length]; exact hl), h5⟩
theorem ed_rd {fuel : Nat} {cs : List Value} {x : DataW H × List MemPlace} (h : DataW.trod enc Try.prog w 0 spare held fuel 105 cs = some x) (hw : Lt Try.prog 105 x.1) : ∃ u : Ed × Sc, cs = edC u.1 u.2 ∧ edR.ok w (low w) u.1 u.2 := by
  obtain ⟨hlen, n, hn, hf⟩ := rd_struct Try.underlying105 h hw
  rw [show Try.prog.cellsOf 105 = 2 by kernel_rfl] at hlen
  obtain ⟨a0, a1, rfl⟩ := list2 hlen
  obtain ⟨y0, g0, w0⟩ := hf 0 _ rfl
  obtain ⟨y1, g1, w1⟩ := hf 1 _ rfl
  change DataW.trod enc Try.prog w 0 spare held n 3 ((List.drop 0 [a0, a1]).take (Try.prog.cellsOf 3)) = some y0 at g0
  change DataW.trod enc Try.prog w 0 spare held n 35 ((List.drop 1 [a0, a1]).take (Try.prog.cellsOf 35)) = some y1 at g1
  rw [show Try.prog.cellsOf 3 = 1 by kernel_rfl] at g0
  rw [show Try.prog.cellsOf 35 = 1 by kernel_rfl] at g1
  obtain ⟨i0, e0, j0⟩ := DataW.trod_int Try.underlying3 g0
  obtain ⟨q1, l1, c1, e1, b1, m1, n1, o1⟩ := ints_rd g1 w1
  have h47 := reach47
  simp [tmC] at e0 e1
  refine ⟨(⟨i0, l1⟩, (q1, c1)), ?_, ⟨wf_i64 j0.2, ⟨m1, b1⟩, n1, o1⟩⟩
  simp [edC, e0, e1]
theorem tm_rd {fuel : Nat} {cs : List Value} {x : DataW H × List MemPlace} (h : DataW.trod enc Try.prog w 0 spare held fuel 39 cs = some x) (hw : Lt Try.prog 39 x.1) : ∃ u : Tm × TmY, cs = tmC u.1 u.2 ∧ TmOk w (low w) u.1 u.2 := by
  obtain ⟨hlen, n, hn, hf⟩ := rd_struct Try.underlying39 h hw
  rw [show Try.prog.cellsOf 39 = 5 by kernel_rfl] at hlen
  obtain ⟨a0, a1, a2, a3, a4, rfl⟩ := list5 hlen
  obtain ⟨y0, g0, w0⟩ := hf 0 _ rfl
  obtain ⟨y1, g1, w1⟩ := hf 1 _ rfl
  obtain ⟨y2, g2, w2⟩ := hf 2 _ rfl
  obtain ⟨y3, g3, w3⟩ := hf 3 _ rfl
  obtain ⟨y4, g4, w4⟩ := hf 4 _ rfl
  change DataW.trod enc Try.prog w 0 spare held n 3 ((List.drop 0 [a0, a1, a2, a3, a4]).take (Try.prog.cellsOf 3)) = some y0 at g0
  change DataW.trod enc Try.prog w 0 spare held n 3 ((List.drop 1 [a0, a1, a2, a3, a4]).take (Try.prog.cellsOf 3)) = some y1 at g1
  change DataW.trod enc Try.prog w 0 spare held n 3 ((List.drop 2 [a0, a1, a2, a3, a4]).take (Try.prog.cellsOf 3)) = some y2 at g2
  change DataW.trod enc Try.prog w 0 spare held n 35 ((List.drop 3 [a0, a1, a2, a3, a4]).take (Try.prog.cellsOf 35)) = some y3 at g3
  change DataW.trod enc Try.prog w 0 spare held n 37 ((List.drop 4 [a0, a1, a2, a3, a4]).take (Try.prog.cellsOf 37)) = some y4 at g4
  rw [show Try.prog.cellsOf 3 = 1 by kernel_rfl] at g0 g1 g2
  rw [show Try.prog.cellsOf 35 = 1 by kernel_rfl] at g3
  rw [show Try.prog.cellsOf 37 = 1 by kernel_rfl] at g4
  obtain ⟨i0, e0, j0⟩ := DataW.trod_int Try.underlying3 g0
  obtain ⟨i1, e1, j1⟩ := DataW.trod_int Try.underlying3 g1
  obtain ⟨i2, e2, j2⟩ := DataW.trod_int Try.underlying3 g2
  obtain ⟨q3, l3, c3, e3, b3, m3, n3, o3⟩ := ints_rd g3 w3
  obtain ⟨q4, l4, c4, e4, b4, m4, n4, o4⟩ := rd_arrL (R := edR) Try.underlying37 (by kernel_rfl) (fun n cs' y _ hy hwy => ed_rd hy hwy) g4 w4
  rw [show Try.prog.bytesOf 105 = 32 by kernel_rfl] at n4
  have h47 := reach47
  simp [tmC] at e0 e1 e2 e3 e4
  refine ⟨(⟨i0, i1, i2, l3, l4.map Prod.fst⟩, ⟨(q3, c3), (q4, c4)⟩), ?_, ⟨wf_i64 j0.2, wf_i64 j1.2, wf_i64 j2.2, m3, by simp only [List.length_map]; omega, b3, by simp only [List.length_map]; exact b4, n3, o3, ⟨l4, rfl, o4⟩⟩⟩
  simp [tmC, e0, e1, e2, e3, e4]
theorem in_rd {fuel : Nat} {cs : List Value} {x : DataW H × List MemPlace} (h : DataW.trod enc Try.prog w 0 spare held fuel 85 cs = some x) (hw : Lt Try.prog 85 x.1) : ∃ u : In × Sc, cs = inC u.1 u.2 ∧ InOk w (low w) u.1 u.2 := by
  obtain ⟨hlen, n, hn, hf⟩ := rd_struct Try.underlying85 h hw
  rw [show Try.prog.cellsOf 85 = 4 by kernel_rfl] at hlen
  obtain ⟨a0, a1, a2, a3, rfl⟩ := list4 hlen
  obtain ⟨y0, g0, w0⟩ := hf 0 _ rfl
  obtain ⟨y1, g1, w1⟩ := hf 1 _ rfl
  obtain ⟨y2, g2, w2⟩ := hf 2 _ rfl
  obtain ⟨y3, g3, w3⟩ := hf 3 _ rfl
  change DataW.trod enc Try.prog w 0 spare held n 3 ((List.drop 0 [a0, a1, a2, a3]).take (Try.prog.cellsOf 3)) = some y0 at g0
  change DataW.trod enc Try.prog w 0 spare held n 3 ((List.drop 1 [a0, a1, a2, a3]).take (Try.prog.cellsOf 3)) = some y1 at g1
  change DataW.trod enc Try.prog w 0 spare held n 3 ((List.drop 2 [a0, a1, a2, a3]).take (Try.prog.cellsOf 3)) = some y2 at g2
  change DataW.trod enc Try.prog w 0 spare held n 35 ((List.drop 3 [a0, a1, a2, a3]).take (Try.prog.cellsOf 35)) = some y3 at g3
  rw [show Try.prog.cellsOf 3 = 1 by kernel_rfl] at g0 g1 g2
  rw [show Try.prog.cellsOf 35 = 1 by kernel_rfl] at g3
  obtain ⟨i0, e0, j0⟩ := DataW.trod_int Try.underlying3 g0
  obtain ⟨i1, e1, j1⟩ := DataW.trod_int Try.underlying3 g1
  obtain ⟨i2, e2, j2⟩ := DataW.trod_int Try.underlying3 g2
  obtain ⟨q3, l3, c3, e3, b3, m3, n3, o3⟩ := ints_rd g3 w3
  have h47 := reach47
  simp [tmC] at e0 e1 e2 e3
  refine ⟨(⟨i0, i1, i2, l3⟩, (q3, c3)), ?_, ⟨wf_i64 j0.2, wf_i64 j1.2, wf_i64 j2.2, m3, b3, n3, o3⟩⟩
  simp [inC, e0, e1, e2, e3]
theorem bk_rd {fuel : Nat} {cs : List Value} {x : DataW H × List MemPlace} (h : DataW.trod enc Try.prog w 0 spare held fuel 41 cs = some x) (hw : Lt Try.prog 41 x.1) : ∃ u : Bk × BkY, cs = bkC u.1 u.2 ∧ BkOk w (low w) u.1 u.2 := by
  obtain ⟨hlen, n, hn, hf⟩ := rd_struct Try.underlying41 h hw
  rw [show Try.prog.cellsOf 41 = 7 by kernel_rfl] at hlen
  obtain ⟨a0, a1, a2, a3, a4, a5, a6, rfl⟩ := list7 hlen
  obtain ⟨y0, g0, w0⟩ := hf 0 _ rfl
  obtain ⟨y1, g1, w1⟩ := hf 1 _ rfl
  obtain ⟨y2, g2, w2⟩ := hf 2 _ rfl
  change DataW.trod enc Try.prog w 0 spare held n 35 ((List.drop 0 [a0, a1, a2, a3, a4, a5, a6]).take (Try.prog.cellsOf 35)) = some y0 at g0
  change DataW.trod enc Try.prog w 0 spare held n 36 ((List.drop 1 [a0, a1, a2, a3, a4, a5, a6]).take (Try.prog.cellsOf 36)) = some y1 at g1
  change DataW.trod enc Try.prog w 0 spare held n 39 ((List.drop 2 [a0, a1, a2, a3, a4, a5, a6]).take (Try.prog.cellsOf 39)) = some y2 at g2
  rw [show Try.prog.cellsOf 35 = 1 by kernel_rfl] at g0
  rw [show Try.prog.cellsOf 36 = 1 by kernel_rfl] at g1
  rw [show Try.prog.cellsOf 39 = 5 by kernel_rfl] at g2
  obtain ⟨q0, l0, c0, e0, b0, m0, n0, o0⟩ := ints_rd g0 w0
  obtain ⟨q1, l1, c1, e1, b1, m1, n1, o1⟩ := rd_arrL (R := inR) Try.underlying36 (by kernel_rfl) (fun n cs' y _ hy hwy => in_rd hy hwy) g1 w1
  rw [show Try.prog.bytesOf 85 = 48 by kernel_rfl] at n1
  obtain ⟨u2, e2, o2⟩ := tm_rd g2 w2
  have h47 := reach47
  simp [tmC] at e0 e1 e2
  refine ⟨(⟨l0, l1.map Prod.fst, u2.1⟩, ⟨(q0, c0), (q1, c1), u2.2⟩), ?_, ⟨m0, by simp only [List.length_map]; omega, b0, by simp only [List.length_map]; exact b1, n0, o0, ⟨l1, rfl, o1⟩, o2⟩⟩
  simp [bkC, e0, e1, e2]
theorem fn_rd {fuel : Nat} {cs : List Value} {x : DataW H × List MemPlace} (h : DataW.trod enc Try.prog w 0 spare held fuel 24 cs = some x) (hw : Lt Try.prog 24 x.1) : ∃ u : Go.Ss.Fn × FnY, cs = fnC u.1 u.2 ∧ FnOk w (low w) u.1 u.2 := by
  obtain ⟨hlen, n, hn, hf⟩ := rd_struct Try.underlying24 h hw
  rw [show Try.prog.cellsOf 24 = 2 by kernel_rfl] at hlen
  obtain ⟨a0, a1, rfl⟩ := list2 hlen
  obtain ⟨y0, g0, w0⟩ := hf 0 _ rfl
  obtain ⟨y1, g1, w1⟩ := hf 1 _ rfl
  change DataW.trod enc Try.prog w 0 spare held n 3 ((List.drop 0 [a0, a1]).take (Try.prog.cellsOf 3)) = some y0 at g0
  change DataW.trod enc Try.prog w 0 spare held n 22 ((List.drop 1 [a0, a1]).take (Try.prog.cellsOf 22)) = some y1 at g1
  rw [show Try.prog.cellsOf 3 = 1 by kernel_rfl] at g0
  rw [show Try.prog.cellsOf 22 = 1 by kernel_rfl] at g1
  obtain ⟨i0, e0, j0⟩ := DataW.trod_int Try.underlying3 g0
  obtain ⟨q1, l1, c1, e1, b1, m1, n1, o1⟩ := rd_arrL (R := bkR) Try.underlying22 (by kernel_rfl) (fun n cs' y _ hy hwy => bk_rd hy hwy) g1 w1
  rw [show Try.prog.bytesOf 41 = 120 by kernel_rfl] at n1
  have h47 := reach47
  simp [tmC] at e0 e1
  refine ⟨(⟨i0, l1.map Prod.fst⟩, ⟨q1, c1⟩), ?_, ⟨wf_i64 j0.2, by simp only [List.length_map]; omega, by simp only [List.length_map]; exact b1, ⟨l1, rfl, o1⟩⟩⟩
  simp [fnC, e0, e1]
end
end Go.Proofs.Ytehelljmaiophaa.ss
